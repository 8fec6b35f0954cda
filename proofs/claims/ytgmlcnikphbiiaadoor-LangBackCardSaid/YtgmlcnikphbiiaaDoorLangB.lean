/-
  The parser's tokens: cut, word.
-/
import Derived.Test.YtgmlcnikphbiiaaDoorLangT
namespace Go.Proofs.YtgmlcnikphbiiaaDoor.L
open Go.RowKit Go.Proofs.YtgmlcnikphbiiaaDoor.B
open Go.Proofs.YtgmlcnikphbiiaaDoor.C (QRow Turn)
set_option linter.unusedVariables false
set_option linter.unusedSimpArgs false

theorem ext_take (l : Bs) (n : Nat) : (⟨l.toArray⟩ : ByteArray).extract 0 n = ⟨(l.take n).toArray⟩ := by
  apply ByteArray.ext
  apply Array.ext'
  simp [ByteArray.data_extract]
theorem ext_drop (l : Bs) (n m : Nat) (hm : m = l.length) : (⟨l.toArray⟩ : ByteArray).extract n m = ⟨(l.drop n).toArray⟩ := by
  subst hm
  apply ByteArray.ext
  apply Array.ext'
  simp [ByteArray.data_extract]
  rw [List.take_of_length_le (by simp)]
theorem sz (l : Bs) : (⟨l.toArray⟩ : ByteArray).size = l.length := by simp [ByteArray.size]
/-- what a call on the parser turns. -/
abbrev At (pb : Nat) (w w' : World) : Prop := Turn (fun k => k = pb) w w'
theorem at_set (w : World) (pb o : Nat) (v : Value) : At pb w (w.setCell ⟨pb, o, none⟩ v) := Turn.setCell w ⟨pb, o, none⟩ v rfl
set_option maxRecDepth 100000 in
set_option maxHeartbeats 1000000 in
theorem cut_calls {w : World} {pb : Nat} {l : Bs} {line col : Int} {x : Bs} {y z op : Int} (h : Blk w pb l line col x y z op) (n : Nat) (hn : n ≤ l.length) (hl : l.length ≤ 5000) (hc : 0 ≤ col ∧ col ≤ 10000) :
    Calls Tryd.prog 46 #[.pointer (some ⟨pb, 0, none⟩), .int .i64 n] w
      fun e w' => e = .returned (vs (l.take n)) ∧ Blk w' pb (l.drop n) line (col + n) x y z op ∧ At pb w w' := by
  have h0 := cells_of h 0 (vs l) rfl
  have h2 := cells_of h 2 (.int .i64 col) rfl
  have f0 := frz_of h 0
  have f2 := frz_of h 2
  have hsz := sz l
  have g1 : (n : Int) ≤ ((⟨l.toArray⟩ : ByteArray).size : Int) := by omega
  unfold vs at h0
  have H := Lib.hid h
  clear h
  go_enter Tryd.func46, Tryd.ntmps46
  go_wp2
  go_ret
  refine ⟨by rw [ext_take]; rfl, ?_, at_set w pb 0 _ |>.trans (at_set _ pb 2 _) (fun _ h _ => h)⟩
  have h1 := heap_setCell_same w pb 0 _ _ (.string ((⟨l.toArray⟩ : ByteArray).extract n l.length)) H.out
  have h2 := heap_setCell_same _ pb 2 _ _ (.int .i64 (col + n)) h1
  rw [ext_drop l n _ rfl] at h2 ⊢
  exact h2
theorem word_count (l : Bs) : (l.length : Int) - (l.dropWhile wc).length = ((l.takeWhile wc).length : Int) := by
  have := congrArg List.length (List.takeWhile_append_dropWhile (p := wc) (l := l))
  rw [List.length_append] at this
  omega
set_option maxRecDepth 100000 in
set_option maxHeartbeats 1000000 in
theorem word_calls {w : World} {pb : Nat} {l : Bs} {line col : Int} {x : Bs} {y z op : Int} (h : Blk w pb l line col x y z op) (hl : l.length ≤ 5000) :
    Calls Tryd.prog 47 #[.pointer (some ⟨pb, 0, none⟩)] w
      fun e w' => e = .returned (.int .i64 (wordN l)) ∧ Below w.heap.size w w' := by
  have h0 := cells_of h 0 (vs l) rfl
  have hsz := sz l
  have hC : ∀ w', Below w.heap.size w w' → w'.cell? ⟨pb, 0, none⟩ = some (.string ⟨l.toArray⟩) := fun w' hb => keepC hb h0
  have hT := fun (v : World) => TrimLeft_calls ⟨l.toArray⟩ v
  unfold vs at h0
  have H := Lib.hid h
  have HC := Lib.hid hC
  have HT := Lib.hid hT
  clear h hC hT
  go_enter Tryd.func47, Tryd.ntmps47
  go_wp2_with fail
  go_region_with (first | (go_at_call 70; refine (HT.out _).mono ?_; rintro e w' ⟨⟨t, rfl, ht⟩, hB⟩; have hb : Below w.heap.size w w' := ⟨hB.os, hB.tape, hB.output, hB.size, hB.block⟩; have hc := HC.out w' hb; have HB := Lib.hid hb; clear hb hB; have HTT := Lib.hid ht; clear ht))
  all_goals
    obtain ⟨m, hm⟩ : ∃ m, t.size = m := ⟨_, rfl⟩
    rw [hm]
    have hlen : t.data.toList.length = m := by rw [Array.length_toList]; exact hm
    rw [HTT.out] at hlen
    have hk := word_count l
    rw [hlen] at hk
    clear hm hlen
    cases hl0 : l with
    | nil =>
      subst hl0
      have hm0 : m = 0 := by simp at hk; omega
      subst hm0
      clear hk
      go_wp2
      go_ret
      exact ⟨rfl, HB.out⟩
    | cons c r =>
      subst hl0
      have h1 : (c :: r).length = r.length + 1 := rfl
      have hgi : (⟨(c :: r).toArray⟩ : ByteArray)[0]? = some c := rfl
      by_cases hm : m = r.length + 1
      · subst hm
        have hw : wordN (c :: r) = 0 := by
          rw [wordN_cons]
          split
          · omega
          · rfl
        have HW := Lib.hid hw
        clear hk hw
        have hz : ((r.length + 1 : Nat) : Int) - ((r.length + 1 : Nat) : Int) = 0 := by omega
        go_wp2
        go_ret
        exact ⟨by rw [HW.out]; rfl, HB.out⟩
      · have hm1 : m ≤ r.length := by omega
        have hne : ((r.length : Int) + 1 - (m : Int) == 0) = false := by simp; omega
        by_cases h97 : (((⟨(c :: r).toArray⟩ : ByteArray)[0]'(by rw [hsz]; simp)).toNat : Int) < 97
        · have hc97 : (c.toNat : Int) < 97 := h97
          have hw : wordN (c :: r) = 0 := by
            rw [wordN_cons, if_neg]
            simp [lowC]; omega
          have HW := Lib.hid hw
          clear hw
          go_wp2
          go_ret
          exact ⟨by rw [HW.out]; rfl, HB.out⟩
        · have hc97 : ¬ (c.toNat : Int) < 97 := h97
          have hw : (wordN (c :: r) : Int) = ((r.length + 1 : Nat) : Int) - m := by
            rw [← h1, hk, wordN_cons]
            have hwc : wc c = true := by
              cases hc : wc c
              · rw [List.takeWhile_cons_of_neg (by rw [hc]; simp)] at hk
                simp at hk; omega
              · rfl
            rw [if_pos]
            unfold wc at hwc
            unfold lowC
            simp at hwc ⊢
            omega
          have HW := Lib.hid hw
          clear hw hk
          clear hc97
          go_wp2
          go_ret
          exact ⟨by rw [HW.out]; simp, HB.out⟩
end Go.Proofs.YtgmlcnikphbiiaaDoor.L

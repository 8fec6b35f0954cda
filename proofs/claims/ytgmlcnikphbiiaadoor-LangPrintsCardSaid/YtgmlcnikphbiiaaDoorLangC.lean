/-
  The parser's tokens: step.
-/
import Derived.Test.YtgmlcnikphbiiaaDoorLangB
import Derived.Lib.IndexAny
namespace Go.Proofs.YtgmlcnikphbiiaaDoor.L
open Go.RowKit Go.Proofs.YtgmlcnikphbiiaaDoor.B
open Go.Proofs.YtgmlcnikphbiiaaDoor.C (QRow Turn)
set_option linter.unusedVariables false
set_option linter.unusedSimpArgs false

theorem At.refl (pb : Nat) (w : World) : At pb w w := Turn.refl _ _
theorem At.trans {pb : Nat} {a b c : World} (h : At pb a b) (h' : At pb b c) : At pb a c := Turn.trans h h' (fun _ h _ => h)
theorem At.below {pb : Nat} {a b c : World} (h : At pb a b) (h' : Below b.heap.size b c) : At pb a c := h.trans (Turn.of_below h')
theorem At.drew {pb : Nat} {a b : World} (h : At pb a b) : At pb a b.drew := ⟨h.os, h.tape, h.output, h.size, h.block⟩
/-- is c among q? -/
theorem among_calls (q : Bs) (s : ByteArray) (hs : s = ⟨q.toArray⟩) (c : UInt8) (w : World) :
    Calls Tryd.prog 45 #[.string s, .int .u8 c.toNat] w fun e w' => (∃ k : Int, e = .returned (.int .i64 k) ∧ (q.contains c = true → 0 ≤ k) ∧ (q.contains c = false → k < 0)) ∧ w' = w := by
  subst hs
  refine (Tryd.strings_IndexByte ⟨q.toArray⟩ c.toNat w).mono ?_
  rintro e w' ⟨rfl, rfl⟩
  have hc : (c.toNat : Int).toNat.toUInt8 = c := by simp
  rw [hc]
  refine ⟨⟨_, rfl, fun h => ?_, fun h => ?_⟩, rfl⟩
  · rw [Lib.contains_iff_indexByte] at h; simpa using h
  · rw [Lib.contains_iff_indexByte] at h; simpa using h
def Room (l : Bs) (line col : Int) : Prop := l.length ≤ 4096 ∧ 0 ≤ line ∧ line + l.length ≤ 5000 ∧ 0 ≤ col ∧ col + l.length ≤ 5000
def lenAt (pb : Nat) (w : World) : Nat := match w.cell? ⟨pb, 0, none⟩ with
  | some (.string s) => s.size
  | _ => 0
theorem Blk.len {w : World} {pb : Nat} {l : Bs} {line col : Int} {x : Bs} {y z op : Int} (h : Blk w pb l line col x y z op) : lenAt pb w = l.length := by
  unfold lenAt
  rw [cells_of h 0 (vs l) rfl]
  exact sz l
theorem next_set {w : World} {pb : Nat} {l : Bs} {line col : Int} {x : Bs} {y z op : Int} (h : Blk w pb l line col x y z op) (y' z' : Int) :
    Blk (((w.setCell ⟨pb, 3, none⟩ (.string ⟨#[]⟩)).setCell ⟨pb, 4, none⟩ (.int .i64 y')).setCell ⟨pb, 5, none⟩ (.int .i64 z')).drew pb l line col [] y' z' op ∧
    At pb w (((w.setCell ⟨pb, 3, none⟩ (.string ⟨#[]⟩)).setCell ⟨pb, 4, none⟩ (.int .i64 y')).setCell ⟨pb, 5, none⟩ (.int .i64 z')).drew := by
  refine ⟨?_, (((at_set w pb 3 _).trans (at_set _ pb 4 _)).trans (at_set _ pb 5 _)).drew⟩
  have h3 := heap_setCell_same w pb 3 _ _ (.string ⟨#[]⟩) h
  have h4 := heap_setCell_same _ pb 4 _ _ (.int .i64 y') h3
  have h5 := heap_setCell_same _ pb 5 _ _ (.int .i64 z') h4
  exact h5
theorem s_set {w : World} {pb : Nat} {l : Bs} {line col : Int} {x : Bs} {y z op : Int} (h : Blk w pb l line col x y z op) (x' : Bs) :
    Blk (w.setCell ⟨pb, 3, none⟩ (vs x')) pb l line col x' y z op := heap_setCell_same w pb 3 _ _ (vs x') h
theorem line_set {w : World} {pb : Nat} {l : Bs} {line col : Int} {x : Bs} {y z op : Int} (h : Blk w pb l line col x y z op) (a b : Int) :
    Blk ((w.setCell ⟨pb, 1, none⟩ (.int .i64 a)).setCell ⟨pb, 2, none⟩ (.int .i64 b)) pb l a b x y z op :=
  heap_setCell_same _ pb 2 _ _ _ (heap_setCell_same w pb 1 _ _ _ h)
theorem tokN_word {c : UInt8} {r : Bs} {n : Nat} (h : wordN (c :: r) = n) (hn : 0 < n) : tokN (c :: r) = n := by
  show (if 0 < wordN (c :: r) then wordN (c :: r) else if signC c then 1 else 0) = n
  rw [h, if_pos hn]
theorem tokN_sign {c : UInt8} {r : Bs} (h : wordN (c :: r) = 0) : tokN (c :: r) = if signC c then 1 else 0 := by
  show (if 0 < wordN (c :: r) then wordN (c :: r) else if signC c then 1 else 0) = _
  rw [h, if_neg (Nat.lt_irrefl 0)]
theorem not_q {c : UInt8} {r : Bs} {n : Nat} (h : tokN (c :: r) = n) (hn : 0 < n) : (c :: r).take n ≠ [] ∧ (c :: r).take n ≠ [63] := by
  obtain ⟨k, rfl⟩ : ∃ k, n = k + 1 := ⟨n - 1, by omega⟩
  refine ⟨by simp, fun e => ?_⟩
  have hc : c = 63 := by simp at e; exact e.1
  subst hc
  have hw : wordN (63 :: r) = 0 := rfl
  rw [tokN_sign hw] at h
  exact absurd h (by simp [signC])
theorem not_pm {c : UInt8} {r : Bs} {n : Nat} (h : tokN (c :: r) = n) : (c :: r).take n ≠ [43, 45] := by
  intro e
  cases n with
  | zero => simp at e
  | succ n =>
    have hc : c = 43 := by simp at e; exact e.1
    subst hc
    have hw : wordN (43 :: r) = 0 := rfl
    rw [tokN_sign hw] at h
    have h1 : n + 1 = 1 := h.symm.trans rfl
    rw [h1] at e
    simp at e
theorem fin_nil {w : World} {pb : Nat} {line col : Int} {op : Int} (hB : Blk w pb [] line (col + (0 : Nat)) [] line col op) (hr : Room [] line col) : PS (w.setCell ⟨pb, 3, none⟩ (vs [])) pb op (tokens [] line col) := by
  refine ⟨[], line, col + (0 : Nat), ⟨[], line, col⟩, [], rfl, s_set hB [], .inl ⟨rfl, rfl, rfl⟩, ?_, by simp, by simp⟩
  unfold Room at hr
  simp at hr ⊢
  omega
theorem fin_cons {w : World} {pb : Nat} {c : UInt8} {r : Bs} {line col : Int} {op : Int} {n : Nat} (hn : tokN (c :: r) = n) (hc : spaceC c = false) (hr : Room (c :: r) line col)
    (hB : Blk w pb ((c :: r).drop n) line (col + n) [] line col op) : PS (w.setCell ⟨pb, 3, none⟩ (vs ((c :: r).take n))) pb op (tokens (c :: r) line col) := by
  have hl : n ≤ (c :: r).length := hn ▸ tokN_le (c :: r)
  have hroom : ((c :: r).drop n).length ≤ 4096 ∧ 0 ≤ line ∧ line + ((c :: r).drop n).length ≤ 5000 ∧ 0 ≤ col + n ∧ col + n + ((c :: r).drop n).length ≤ 5000 := by
    unfold Room at hr
    rw [List.length_drop]
    omega
  rw [tokens_tok c r line col hc, hn]
  by_cases h0 : n = 0
  · subst h0
    exact ⟨_, _, _, _, _, rfl, s_set hB [], .inr (.inl ⟨rfl, by simp, rfl⟩), hroom, by simp, by simp⟩
  · rw [if_neg h0]
    have hq := not_q hn (by omega)
    refine ⟨_, _, _, _, _, rfl, ?_, .inr (.inr ⟨hq.1, hq.2, rfl⟩), hroom, ?_, not_pm hn⟩
    · have : shown ((c :: r).take n) = (c :: r).take n := by
        unfold shown
        rw [if_neg]
        intro e
        exact hq.2 (eq_of_beq e)
      dsimp only
      rw [this]
      exact s_set hB _
    · have := hr.1
      simp only [List.length_take]
      omega
set_option maxRecDepth 100000 in
set_option maxHeartbeats 4000000 in
theorem step_calls {w : World} {pb : Nat} {l : Bs} {line col : Int} {x : Bs} {y z op : Int} (h : Blk w pb l line col x y z op) (hr : Room l line col) :
    Calls Tryd.prog 23 #[.pointer (some ⟨pb, 0, none⟩)] w
      fun e w' => e = .returned (.tuple #[]) ∧ PS w' pb op (tokens l line col) ∧ At pb w w' := by
  have H := Lib.hid h
  have HR := Lib.hid hr
  clear h hr
  go_enter Tryd.func23, Tryd.ntmps23
  go_wp2_with fail
  go_loopw [] (fun wr => ∃ (l' : Bs) (line' col' : Int), Blk wr pb l' line' col' x y z op ∧ Room l' line' col' ∧ At pb w wr ∧ tokens l' line' col' = tokens l line col) (fun wr => lenAt pb wr)
  case atStart => exact ⟨l, line, col, H.out, HR.out, At.refl _ _, rfl⟩
  case round =>
    clear H HR
    obtain ⟨l', line', col', hB, hr, hA, ht⟩ := hrel
    have HB := Lib.hid hB
    have HR := Lib.hid hr
    have HA := Lib.hid hA
    have HT := Lib.hid ht
    have h0 := cells_of hB 0 (vs l') rfl
    have h1 := cells_of hB 1 (.int .i64 line') rfl
    have h2 := cells_of hB 2 (.int .i64 col') rfl
    have h3 := cells_of hB 3 (vs x) rfl
    have h4 := cells_of hB 4 (.int .i64 y) rfl
    have h5 := cells_of hB 5 (.int .i64 z) rfl
    have f0 := frz_of hB 0
    have f3 := frz_of hB 3
    have f4 := frz_of hB 4
    have f5 := frz_of hB 5
    unfold vs at h0
    clear hB hr hA ht
    cases l' with
    | nil =>
      go_wp2_with fail
      go_region
      obtain ⟨hB3, hA3⟩ := next_set HB.out line' col'
      generalize (((wr.setCell ⟨pb, 3, none⟩ (.string ⟨#[]⟩)).setCell ⟨pb, 4, none⟩ (.int .i64 line')).setCell ⟨pb, 5, none⟩ (.int .i64 col')).drew = w3 at *
      clear HB h0 h1 h2 h3 h4 h5 f0 f3 f4 f5
      go_wp2_with fail
      refine (word_calls hB3 (by simp)).mono ?_
      rintro e w4 ⟨rfl, hb4⟩
      have hB4 := hB3.kept (hb4.block pb hB3.lt)
      have hA4 := (HA.out.trans hA3).below hb4
      have g0 := cells_of hB4 0 (vs []) rfl
      have HB4 := Lib.hid hB4
      have HA4 := Lib.hid hA4
      clear hA3 hB3 hb4 hA4 hB4
      unfold vs at g0
      simp only [show wordN [] = 0 from rfl]
      go_wp2_with fail
      refine (cut_calls HB4.out 0 (by simp) (by simp) (by have := HR.out; unfold Room at this; simp at this; omega)).mono ?_
      rintro e w5 ⟨rfl, hB5, hA5⟩
      have e3 := cells_of hB5 3 (vs []) rfl
      have k3 := frz_of hB5 3
      have HB5 := Lib.hid hB5
      have HA5 := Lib.hid (HA4.out.trans hA5)
      clear hA5 hB5
      unfold vs at e3 ⊢
      go_wp2
      refine bodyPost_end (results_none rfl _ _ _) rfl ?_
      refine ⟨rfl, ?_, HA5.out.trans (at_set _ pb 3 _)⟩
      rw [← HT.out]
      exact fin_nil HB5.out HR.out
    | cons c r =>
      go_wp2_with fail
      refine (among_calls [32, 9, 10] _ rfl c wr).mono ?_
      rintro e w1 ⟨⟨k, rfl, hy, hn⟩, rfl⟩
      cases hsp : spaceC c with
      | true =>
        have hk : 0 ≤ k := hy hsp
        clear hy hn
        go_wp2_with fail
        refine (cut_calls HB.out 1 (by simp) (by have := HR.out; unfold Room at this; omega) (by have := HR.out; unfold Room at this; simp at this; omega)).mono ?_
        rintro e w2 ⟨rfl, hB2, hA2⟩
        have g1 := cells_of hB2 1 (.int .i64 line') rfl
        have g2 := cells_of hB2 2 (.int .i64 (col' + (1 : Nat))) rfl
        have e1 := frz_of hB2 1
        have e2 := frz_of hB2 2
        simp only [show List.take 1 (c :: r) = [c] from rfl]
        have HB2 := Lib.hid hB2
        have HA2 := Lib.hid (HA.out.trans hA2)
        unfold vs
        clear hB2 hA2 h0 h1 h2 h3 h4 h5 f0 f3 f4 f5
        have hr := HR.out
        unfold Room at hr
        simp at hr
        obtain ⟨r1, r2, r3, r4, r5⟩ := hr
        have r6 : line' ≤ 5000 := by omega
        cases h10 : (c == 10) with
        | true =>
          have hc10 := eq_of_beq h10
          subst hc10
          have hrel := line_set HB2.out (line' + 1) 1
          have hA2 := (HA2.out.trans (at_set w2 pb 1 (.int .i64 (line' + 1)))).trans (at_set _ pb 2 (.int .i64 1))
          have HREL := Lib.hid (show _ ∧ _ from ⟨hrel, hA2⟩)
          clear hrel hA2
          go_wp2
          refine ⟨⟨r, _, _, HREL.out.1, ⟨by omega, by omega, by omega, by omega, by omega⟩, HREL.out.2, ?_⟩, ?_⟩
          · rw [← HT.out, tokens_nl]
          · rw [HREL.out.1.len, HB.out.len]
            exact Nat.lt_succ_self _
        | false =>
          have hb : ([c] == [10]) = false := by simpa using h10
          have H10 := Lib.hid h10
          clear h10
          go_wp2
          refine ⟨⟨r, _, _, HB2.out, ⟨by omega, by omega, by omega, by omega, by simp; omega⟩, HA2.out, ?_⟩, ?_⟩
          · rw [← HT.out, tokens_space c r _ _ hsp H10.out]; rfl
          · rw [HB2.out.len, HB.out.len]
            exact Nat.lt_succ_self _
      | false =>
        have hk : k < 0 := hn hsp
        clear hy hn
        go_wp2_with fail
        go_region
        obtain ⟨hB3, hA3⟩ := next_set HB.out line' col'
        generalize (((w1.setCell ⟨pb, 3, none⟩ (.string ⟨#[]⟩)).setCell ⟨pb, 4, none⟩ (.int .i64 line')).setCell ⟨pb, 5, none⟩ (.int .i64 col')).drew = w3 at *
        have hsmall : (c :: r).length ≤ 5000 := by have := HR.out.1; omega
        have hcol : 0 ≤ col' ∧ col' ≤ 10000 := by have := HR.out; unfold Room at this; omega
        clear HB h0 h1 h2 h3 h4 h5 f0 f3 f4 f5
        go_wp2_with fail
        refine (word_calls hB3 hsmall).mono ?_
        rintro e w4 ⟨rfl, hb4⟩
        have hB4 := hB3.kept (hb4.block pb hB3.lt)
        have hA4 := (HA.out.trans hA3).below hb4
        have g0 := cells_of hB4 0 (vs (c :: r)) rfl
        have HB4 := Lib.hid hB4
        have HA4 := Lib.hid hA4
        have HSM := Lib.hid hsmall
        have HCOL := Lib.hid hcol
        have HSP := Lib.hid hsp
        clear hA3 hB3 hb4 hA4 hB4 hsmall hcol hsp
        unfold vs at g0
        obtain ⟨n, hn⟩ : ∃ n, wordN (c :: r) = n := ⟨_, rfl⟩
        rw [hn]
        have HN := Lib.hid hn
        clear hn
        by_cases hn0 : n = 0
        · subst hn0
          go_wp2_with fail
          refine (among_calls [58, 124, 35, 43, 45, 38, 46, 40, 41] _ rfl c w4).mono ?_
          rintro e w5 ⟨⟨k2, rfl, hy2, hn2⟩, rfl⟩
          cases hsg : signC c with
          | true =>
            have hk2 : 0 ≤ k2 := hy2 hsg
            have HN1 := Lib.hid (show tokN (c :: r) = 1 by rw [tokN_sign HN.out, hsg]; rfl)
            clear hy2 hn2 hsg
            go_wp2_with fail
            refine (cut_calls HB4.out 1 (by simp) HSM.out HCOL.out).mono ?_
            rintro e w6 ⟨rfl, hB5, hA5⟩
            have e3 := cells_of hB5 3 (vs []) rfl
            have k3 := frz_of hB5 3
            have HB5 := Lib.hid hB5
            have HA5 := Lib.hid (HA4.out.trans hA5)
            clear hA5 hB5
            unfold vs at e3 ⊢
            go_wp2
            refine bodyPost_end (results_none rfl _ _ _) rfl ?_
            refine ⟨rfl, ?_, HA5.out.trans (at_set _ pb 3 _)⟩
            rw [← HT.out]
            exact fin_cons HN1.out HSP.out HR.out HB5.out
          | false =>
            have hk2 : k2 < 0 := hn2 hsg
            have HN1 := Lib.hid (show tokN (c :: r) = 0 by rw [tokN_sign HN.out, hsg]; rfl)
            clear hy2 hn2 hsg
            go_wp2_with fail
            refine (cut_calls HB4.out 0 (by simp) HSM.out HCOL.out).mono ?_
            rintro e w6 ⟨rfl, hB5, hA5⟩
            have e3 := cells_of hB5 3 (vs []) rfl
            have k3 := frz_of hB5 3
            have HB5 := Lib.hid hB5
            have HA5 := Lib.hid (HA4.out.trans hA5)
            clear hA5 hB5
            unfold vs at e3 ⊢
            go_wp2
            refine bodyPost_end (results_none rfl _ _ _) rfl ?_
            refine ⟨rfl, ?_, HA5.out.trans (at_set _ pb 3 _)⟩
            rw [← HT.out]
            exact fin_cons HN1.out HSP.out HR.out HB5.out
        · have HN1 := Lib.hid (tokN_word HN.out (by omega))
          have hne : ((n : Int) == 0) = false := by simp; omega
          go_wp2_with fail
          refine (cut_calls HB4.out n (by have := wordN_le (c :: r); rw [HN.out] at this; exact this) HSM.out HCOL.out).mono ?_
          rintro e w6 ⟨rfl, hB5, hA5⟩
          have e3 := cells_of hB5 3 (vs []) rfl
          have k3 := frz_of hB5 3
          have HB5 := Lib.hid hB5
          have HA5 := Lib.hid (HA4.out.trans hA5)
          clear hA5 hB5
          unfold vs at e3 ⊢
          go_wp2
          refine bodyPost_end (results_none rfl _ _ _) rfl ?_
          refine ⟨rfl, ?_, HA5.out.trans (at_set _ pb 3 _)⟩
          rw [← HT.out]
          exact fin_cons HN1.out HSP.out HR.out HB5.out
end Go.Proofs.YtgmlcnikphbiiaaDoor.L

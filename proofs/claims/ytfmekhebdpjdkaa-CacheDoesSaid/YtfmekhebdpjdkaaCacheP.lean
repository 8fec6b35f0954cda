/-
  The document's cache: at, walked.
-/
import Derived.Test.YtfmekhebdpjdkaaCacheN
namespace Go.Proofs.Ytfmekhebdpjdkaa.C
open Go.RowKit Go.Proofs.Ytfmekhebdpjdkaa.B
set_option linter.unusedVariables false
set_option linter.unusedSimpArgs false

theorem info_ptr : (Try.prog.info? 49).map (fun i => (i.zero, i.size, i.bytes)) = some (some (.pointer none), 1, 8) := by kernel_rfl
set_option maxRecDepth 100000 in
set_option maxHeartbeats 1000000 in
theorem rat_calls {w : World} {rb : Nat} {most : Int} {N : Nat} {tag : Nat → Option Tag} {tv : Value} {names : List Nm} {pt : Nm → Nat} {S : Nm → Option Tn} (h : RepR w rb most N tag tv names pt S) (hN : N < 100000) (s : ByteArray) (rev : Int) :
    Calls Try.prog 18 #[.pointer (some ⟨rb, 0, none⟩), .string s, .int .i64 rev] w (RAtPost w rb most N tag S s.data.toList (atF rev (S s.data.toList))) := by
  obtain ⟨a, c, rfl⟩ := h.row.form
  have hc1 := cells_of h.hc 1 (.slice a names.length c) rfl
  have hf1 := frz_of h.hc 1
  have hrb := (Array.getElem?_eq_some_iff.1 h.hc).1
  have H := Lib.hid h
  have hlen := h.len
  clear h
  obtain ⟨x, hx⟩ : ∃ x, atF rev (S s.data.toList) = x := ⟨_, rfl⟩
  rw [hx]
  have HX := Lib.hid hx
  clear hx
  obtain ⟨i0, hi, hz0, hz1, hz2⟩ := info_parts info_ptr
  have HI := Lib.hid hi; clear hi
  have HZ0 := Lib.hid hz0; clear hz0
  have HZ1 := Lib.hid hz1; clear hz1
  have HZ2 := Lib.hid hz2; clear hz2
  go_enter Try.func18, Try.ntmps18
  go_wp2
  go_loop [7] (fun v7 => ∃ i : Nat, i ≤ names.length ∧ v7 = .int .i64 (i : Int) ∧ s.data.toList ∉ names.take i) (fun v7 => names.length - (intOf v7).toNat)
  case atStart => exact ⟨0, Nat.zero_le _, rfl, by simp⟩
  case round =>
    obtain ⟨i, hi, rfl, hno⟩ := hrel
    by_cases hlt : i < names.length
    · obtain ⟨q, t, g, off, la, lc, hq, ht, rfl, hcell, hp⟩ := H.out.get hlt
      obtain ⟨p1, p2, p3, p4, p5⟩ := hp
      have k0 := cells_of p3 0 (.string ⟨q.toArray⟩) rfl
      have k1 := cells_of p3 1 (.int .i64 t.1) rfl
      have k2 := cells_of p3 2 (.slice la t.2.length lc) rfl
      have f1 := frz_of p3 1
      have f2 := frz_of p3 2
      have i0 : (0 : Int) ≤ (i : Int) := by omega
      have i1 : (i : Int) < (names.length : Int) := by omega
      have hgp : g ≠ pt q := fun e => by have := H.out.tt g rfl; rw [e, p1] at this; cases this
      have hrp : rb ≠ pt q := fun e => by have := H.out.tc; rw [e, p1] at this; cases this
      clear p1 p2 p3 p4
      by_cases he : q = s.data.toList
      · have t1 := vs_eq he
        obtain ⟨t1', l⟩ := t
        have hS : S s.data.toList = some (t1', l) := by rw [← he]; exact ht
        have HE := Lib.hid he
        clear hno ht hq he
        by_cases hr : t1' < rev
        · have hx : x = (rev, []) := by rw [← HX.out, hS]; simp [atF]; omega
          subst hx
          have hpost := rat_newer H.out hS rev
          rw [← HE.out] at hpost
          have HP := Lib.hid hpost
          have e1 : ((w.setCell ⟨pt q, 1, none⟩ (.int .i64 rev)).cell? ⟨g, off + i, none⟩) = some (.pointer (some ⟨pt q, 0, none⟩)) := by
            rw [World.cell?_setCell_other _ _ _ _ (fun e => by injection e with e1; exact hgp e1.symm)]; exact hcell
          have e2 : ((w.setCell ⟨pt q, 1, none⟩ (.int .i64 rev)).cell? ⟨rb, 1, none⟩) = some (.slice (some ⟨g, off, none⟩) names.length c) := by
            rw [World.cell?_setCell_other _ _ _ _ (fun e => by injection e with e1; exact hrp e1.symm)]; exact hc1
          have e3 : (((w.setCell ⟨pt q, 1, none⟩ (.int .i64 rev)).setCell ⟨pt q, 2, none⟩ (.slice none 0 0)).cell? ⟨g, off + i, none⟩) = some (.pointer (some ⟨pt q, 0, none⟩)) := by
            rw [World.cell?_setCell_other _ _ _ _ (fun e => by injection e with e1; exact hgp e1.symm)]; exact e1
          have e4 : (((w.setCell ⟨pt q, 1, none⟩ (.int .i64 rev)).setCell ⟨pt q, 2, none⟩ (.slice none 0 0)).cell? ⟨rb, 1, none⟩) = some (.slice (some ⟨g, off, none⟩) names.length c) := by
            rw [World.cell?_setCell_other _ _ _ _ (fun e => by injection e with e1; exact hrp e1.symm)]; exact e2
          clear hpost hS
          go_wp2
          go_ret
          rw [← HE.out]
          exact HP.out
        · have hx : x = (t1', l) := by rw [← HX.out, hS]; simp [atF]; omega
          subst hx
          have hpost := rat_same H.out hS
          rw [← HE.out] at hpost
          have HP := Lib.hid hpost
          clear hpost hS
          go_wp2
          go_ret
          rw [← HE.out]
          exact HP.out
      · have t1 := vs_neq he
        have hno2 := take_no hno hq he
        clear hno ht hq he
        go_wp2
        exact ⟨⟨i + 1, by omega, by go_num, hno2⟩, by simp [intOf]; omega⟩
    · have hS : S s.data.toList = none := by
        cases hs : S s.data.toList with
        | none => rfl
        | some t =>
          have hm := (H.out.mem s.data.toList).2 (by rw [hs]; rfl)
          rw [List.take_of_length_le (by omega)] at hno
          exact absurd hm hno
      have hx : x = (rev, []) := by rw [← HX.out, hS]; rfl
      subst hx
      have hvs : vs s.data.toList = .string s := vs_mk s
      have HQ := Lib.hid (H.out.row.kept (w' := (w.alloc (.cells #[.string s, .int .i64 rev, .slice none 0 0] 53)).alloc (.cells #[.pointer (some ⟨w.heap.size, 0, none⟩)] 49)) fun g hg => alloc2_old _ _ (H.out.row.block_lt hg))
      have HS := Lib.hid hS
      have HN := Lib.hid (World.news_of_block (w := (w.alloc (.cells #[.string s, .int .i64 rev, .slice none 0 0] 53)).alloc (.cells #[.pointer (some ⟨w.heap.size, 0, none⟩)] 49)) (B := w.heap.size + 1) (cs := #[.pointer (some ⟨w.heap.size, 0, none⟩)]) (t := 49) (fr := (0, 0)) (by simpa using heap_alloc_new (w.alloc (.cells #[.string s, .int .i64 rev, .slice none 0 0] 53)) (.cells #[.pointer (some ⟨w.heap.size, 0, none⟩)] 49)))
      clear hno hS
      go_wp2_with (at_builtin; go_loud (refine wpList_append_q rfl _ _ 27 rfl 49 i0 (.pointer none) 1 8 Try.underlying27 HI.out HZ0.out HZ1.out HZ2.out rfl (by decide) _ names.length _ rfl HQ.out ⟨w.heap.size + 1, 0, none⟩ 1 1 [.pointer (some ⟨w.heap.size, 0, none⟩)] rfl rfl HN.out (by intro u hu; simp at hu; rw [hu]; rfl) (by unfold maxLen; omega) (by omega) ?_))
      intro v' w2 hq2 hg2 hblk
      obtain ⟨a', c', rfl⟩ := hq2.form
      have hrt : ∀ g, (Value.slice a names.length c).ownBlock = some g → rb ≠ g := fun g hg e => by have := H.out.tt g hg; rw [← e, H.out.tc] at this; cases this
      have hr2 : w2.heap[rb]? = some (.cells #[.int .i64 most, .slice a names.length c] 29 (0, 0)) := by
        rw [hg2.block rb (by simp; omega) (fun e => hrt rb e.symm rfl), alloc2_old _ _ hrb]; exact H.out.hc
      have m1 := cells_of hr2 1 (.slice a names.length c) rfl
      have mf := frz_of hr2 1
      have hpost := rat_new H.out HS.out rev (w1 := w.alloc (.cells #[.string s, .int .i64 rev, .slice none 0 0] 53)) (by rw [hvs]) hq2 hg2 (by simpa using hblk) rfl
      have HP := Lib.hid hpost
      clear hpost hr2 hq2 hg2 hblk HQ hvs hc1 hf1
      go_wp2
      go_ret
      exact HP.out
end Go.Proofs.Ytfmekhebdpjdkaa.C

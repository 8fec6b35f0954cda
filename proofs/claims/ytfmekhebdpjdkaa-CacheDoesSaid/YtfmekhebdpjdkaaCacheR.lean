/-
  The document's cache: Drop.
-/
import Derived.Test.YtfmekhebdpjdkaaCacheQ
namespace Go.Proofs.Ytfmekhebdpjdkaa.C
open Go.RowKit Go.Proofs.Ytfmekhebdpjdkaa.B
set_option linter.unusedVariables false
set_option linter.unusedSimpArgs false

def keep (names : List Nm) (nm : Nm) : List Nm := names.filter (fun q => !decide (q = nm))
theorem keep_step {names : List Nm} {nm q : Nm} {i : Nat} (hq : names[i]? = some q) : keep (names.take (i + 1)) nm = if q = nm then keep (names.take i) nm else keep (names.take i) nm ++ [q] := by
  unfold keep
  rw [List.take_add_one, hq, List.filter_append]
  by_cases h : q = nm <;> simp [h]
theorem rdrop_post {w w1 : World} {rb : Nat} {most : Int} {N : Nat} {tag : Nat → Option Tag} {tv v' : Value} {names : List Nm} {pt : Nm → Nat} {S : Nm → Option Tn} (h : RepR w rb most N tag tv names pt S) {nm : Nm}
    (hb : Below w.heap.size w w1) (ho : w1.ownsRow w.heap.size 49 1 v' (keep names nm).length ((keep names nm).map fun nm => .pointer (some ⟨pt nm, 0, none⟩))) :
    RPost w rb most N tag (upd S nm none) (.tuple #[]) (.returned (.tuple #[])) (w1.setCell ⟨rb, 1, none⟩ v') := by
  have hrb := (Array.getElem?_eq_some_iff.1 h.hc).1
  have hnew : ∀ g, v'.ownBlock = some g → w.heap.size ≤ g ∧ g < w1.heap.size := fun g hg => ho.lt g hg
  have hold : ∀ b, b < w.heap.size → b ≠ rb → (w1.setCell ⟨rb, 1, none⟩ v').heap[b]? = w.heap[b]? := fun b hb' hne => by
    rw [heap_setCell_other _ _ _ _ hne, hb.block b hb']
  have tagv : ∀ b, b < w.heap.size → (if v'.ownBlock = some b then some Tag.map else tag b) = tag b := fun b hlt => by
    split
    · rename_i e; have := (hnew b e).1; omega
    · rfl
  refine ⟨fun b => if v'.ownBlock = some b then some .map else tag b, v', keep names nm, pt, rfl, ⟨?_, ?_, ?_, ?_, ?_, ?_, ?_, ?_, ?_⟩, ⟨?_, tagv⟩⟩
  · exact (tagv rb hrb).trans h.tc
  · exact heap_setCell_same w1 rb 1 _ _ _ ((hb.block rb hrb).trans h.hc)
  · intro g hg; simp [hg]
  · exact (QRow.of_owns ho).kept fun g hg => heap_setCell_other _ _ _ _ (show g ≠ rb from fun e => by have := (hnew g hg).1; omega)
  · exact Nat.le_trans (List.length_filter_le _ _) h.len
  · exact h.nd.filter _
  · intro b hb'
    show b < (w1.setCell ⟨rb, 1, none⟩ v').heap.size
    have hs := hb.size
    have e : (w1.setCell ⟨rb, 1, none⟩ v').heap.size = w1.heap.size := by simp
    rw [e]
    split at hb'
    · rename_i e; exact (hnew b e).2
    · exact Nat.lt_of_lt_of_le (h.lt b hb') hs
  · intro q
    unfold keep
    rw [List.mem_filter]
    by_cases hq : q = nm
    · subst hq; rw [upd_same]; simp
    · rw [upd_other _ _ hq, h.mem q]; simp [hq]
  · intro q t ht
    have hq : q ≠ nm := fun e => by subst e; rw [upd_same] at ht; cases ht
    rw [upd_other _ _ hq] at ht
    obtain ⟨lv, hp⟩ := h.parts q t ht
    refine ⟨lv, hp.kept (fun b hb' => ?_) (Nat.le_refl _)⟩
    have hlt := h.lt b (by rcases hb' with e | e | e <;> simp [e])
    refine ⟨hold b hlt (fun e => ?_), tagv b hlt⟩
    have := h.tc
    rw [← e] at this
    rcases hb' with e | e | e <;> rw [this] at e <;> cases e
  · refine ⟨hb.os, hb.tape, hb.output, by simpa using hb.size, fun b hb' hn => hold b hb' (fun e => hn ?_)⟩
    rw [e]; simp [fp, h.tc]
set_option maxRecDepth 100000 in
set_option maxHeartbeats 1000000 in
theorem RDrop_calls {w : World} {rb : Nat} {most : Int} {N : Nat} {tag : Nat → Option Tag} {tv : Value} {names : List Nm} {pt : Nm → Nat} {S : Nm → Option Tn} (h : RepR w rb most N tag tv names pt S) (hN : N < 100000) (s : ByteArray) :
    Calls Try.prog 14 #[.pointer (some ⟨rb, 0, none⟩), .string s] w (RPost w rb most N tag (upd S s.data.toList none) (.tuple #[])) := by
  obtain ⟨a, c, rfl⟩ := h.row.form
  have H := Lib.hid h
  have hlen := h.len
  have hrb := (Array.getElem?_eq_some_iff.1 h.hc).1
  obtain ⟨i0, hi, hz0, hz1, hz2⟩ := info_parts info_ptr
  have HI := Lib.hid hi; clear hi
  have HZ0 := Lib.hid hz0; clear hz0
  have HZ1 := Lib.hid hz1; clear hz1
  have HZ2 := Lib.hid hz2; clear hz2
  clear h
  go_enter Try.func14, Try.ntmps14
  go_wp2
  go_loopw [4, 5] (fun v4 v5 wr => ∃ i : Nat, i ≤ names.length ∧ v5 = .int .i64 (i : Int) ∧ Below w.heap.size w wr ∧ wr.ownsRow w.heap.size 49 1 v4 (keep (names.take i) s.data.toList).length ((keep (names.take i) s.data.toList).map fun nm => .pointer (some ⟨pt nm, 0, none⟩))) (fun _ v5 _ => names.length - (intOf v5).toNat)
  case atStart => exact ⟨0, Nat.zero_le _, rfl, Below.refl _ _, World.ownsRow_nil _ _ _ _⟩
  case round =>
    obtain ⟨i, hi, rfl, hbel, hown⟩ := hrel
    have HR := Lib.hid (H.out.below hbel)
    have hc1 := cells_of HR.out.hc 1 (.slice a names.length c) rfl
    have hf1 := frz_of HR.out.hc 1
    by_cases hlt : i < names.length
    · obtain ⟨q, t, g, off, la, lc, hq, ht, rfl, hcell, hp⟩ := HR.out.get hlt
      obtain ⟨p1, p2, p3, p4, p5⟩ := hp
      have k0 := cells_of p3 0 (.string ⟨q.toArray⟩) rfl
      have j0 : (0 : Int) ≤ (i : Int) := by omega
      have j1 : (i : Int) < (names.length : Int) := by omega
      have hks := keep_step (nm := s.data.toList) hq
      clear p1 p2 p3 p4 p5
      by_cases he : q = s.data.toList
      · have t0 := vs_eq he
        have t1 : (q != s.toList) = false := by rw [bne, vs_eq he]; rfl
        rw [if_pos he] at hks
        have HRL := Lib.hid (show wr.ownsRow w.heap.size 49 1 _ (keep (names.take (i + 1)) s.data.toList).length ((keep (names.take (i + 1)) s.data.toList).map fun nm => .pointer (some ⟨pt nm, 0, none⟩)) by rw [hks]; exact hown)
        clear hown hks ht hq he
        go_wp2
        exact ⟨⟨i + 1, by omega, by go_num, hbel, HRL.out⟩, by simp [intOf]; omega⟩
      · have t0 := vs_neq he
        have t1 : (q != s.toList) = true := by rw [bne, vs_neq he]; rfl
        rw [if_neg he] at hks
        have HO := Lib.hid hown
        have HK := Lib.hid hks
        have hkl : (keep (names.take i) s.data.toList).length ≤ N := Nat.le_trans (List.length_filter_le _ _) (by rw [List.length_take]; omega)
        have hbz := hbel.size
        clear hown hks ht hq he
        go_wp2_with (at_builtin; go_loud (refine wpList_append_own _ rfl _ _ 27 rfl w.heap.size 49 i0 (.pointer none) 1 8 Try.underlying27 HI.out HZ0.out HZ1.out HZ2.out rfl (by decide) _ _ _ rfl (HO.out.alloc _) ⟨wr.heap.size, 0, none⟩ 1 1 [.pointer (some ⟨pt q, 0, none⟩)] rfl rfl (cell_one_new _ _ _) ?c2 ?c3 ?c4 ?c5 ?_))
        case c2 => intro u hu; simp at hu; subst hu; rfl
        case c3 => unfold maxLen; omega
        case c4 => omega
        case c5 => simp; omega
        intro v' w1 hown1 hgrow1 _
        have hb1 : Below w.heap.size w w1 := ((hbel.alloc hbel.size _).grown hgrow1 (by simp; omega) (fun b hb => (HO.out.lt b hb).1))
        have hown2 : w1.ownsRow w.heap.size 49 1 v' (keep (names.take (i + 1)) s.data.toList).length ((keep (names.take (i + 1)) s.data.toList).map fun nm => .pointer (some ⟨pt nm, 0, none⟩)) := by
          rw [HK.out, List.length_append, List.map_append]
          exact hown1
        have HW := Lib.hid hown2
        clear hown1 hgrow1 hown2
        go_wp2
        exact ⟨⟨i + 1, by omega, by go_num, hb1, HW.out⟩, by simp [intOf]; omega⟩
    · rw [List.take_of_length_le (by omega)] at hown
      obtain ⟨va, vc, hv⟩ := (QRow.of_owns hown).form
      subst hv
      have hpost := rdrop_post H.out hbel hown
      have HP := Lib.hid hpost
      clear hpost hown
      go_wp2
      exact bodyPost_end (results_none rfl _ _ _) rfl HP.out
end Go.Proofs.Ytfmekhebdpjdkaa.C

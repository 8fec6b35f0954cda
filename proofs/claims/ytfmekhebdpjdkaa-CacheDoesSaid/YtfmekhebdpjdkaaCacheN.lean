/-
  The document's cache: Len, at.
-/
import Derived.Test.YtfmekhebdpjdkaaCacheM
namespace Go.Proofs.Ytfmekhebdpjdkaa.C
open Go.RowKit Go.Proofs.Ytfmekhebdpjdkaa.B
set_option linter.unusedVariables false
set_option linter.unusedSimpArgs false

theorem vs_eq {q : Nm} {s : ByteArray} (h : q = s.data.toList) : (q == s.toList) = true := by
  rw [ByteArray.toList_eq, h]; simp
theorem vs_neq {q : Nm} {s : ByteArray} (h : q ≠ s.data.toList) : (q == s.toList) = false := by
  rw [ByteArray.toList_eq]; simpa using h
/-- A tenant, found at its place. -/
theorem RepR.get {w : World} {rb : Nat} {most : Int} {N : Nat} {tag : Nat → Option Tag} {a : Option Addr} {c : Nat} {names : List Nm} {pt : Nm → Nat} {S : Nm → Option Tn} (h : RepR w rb most N tag (.slice a names.length c) names pt S) {i : Nat} (hi : i < names.length) :
    ∃ q t g off la lc, names[i]? = some q ∧ S q = some t ∧ a = some ⟨g, off, none⟩ ∧ w.cell? ⟨g, off + i, none⟩ = some (.pointer (some ⟨pt q, 0, none⟩)) ∧
      PartR w N tag q (pt q) t (.slice la t.2.length lc) := by
  obtain ⟨q, hq⟩ : ∃ q, names[i]? = some q := ⟨names[i], List.getElem?_eq_getElem hi⟩
  have hm := (h.mem q).1 (List.mem_of_getElem? hq)
  obtain ⟨t, ht⟩ := Option.isSome_iff_exists.1 hm
  obtain ⟨lv, hp⟩ := h.parts q t ht
  obtain ⟨la, lc, rfl⟩ := hp.2.2.2.1.form
  obtain ⟨g, off, ha, hc⟩ := h.row.get hi (v := .pointer (some ⟨pt q, 0, none⟩)) (by rw [List.getElem?_map, hq]; rfl)
  exact ⟨q, t, g, off, la, lc, hq, ht, ha, hc, hp⟩
theorem take_no {names : List Nm} {nm q : Nm} {i : Nat} (h : nm ∉ names.take i) (hq : names[i]? = some q) (hne : q ≠ nm) : nm ∉ names.take (i + 1) := by
  rw [List.take_add_one, hq]
  simp only [Option.toList_some, List.mem_append, List.mem_singleton]
  rintro (hc | hc)
  · exact h hc
  · exact hne hc.symm
set_option maxRecDepth 100000 in
set_option maxHeartbeats 1000000 in
theorem RLen_calls {w : World} {rb : Nat} {most : Int} {N : Nat} {tag : Nat → Option Tag} {tv : Value} {names : List Nm} {pt : Nm → Nat} {S : Nm → Option Tn} (h : RepR w rb most N tag tv names pt S) (hN : N < 100000) (s : ByteArray) :
    Calls Try.prog 16 #[.pointer (some ⟨rb, 0, none⟩), .string s] w fun e w' => e = .returned (.int .i64 (lenF (S s.data.toList))) ∧ w' = w := by
  obtain ⟨a, c, rfl⟩ := h.row.form
  have hc1 := cells_of h.hc 1 (.slice a names.length c) rfl
  have H := Lib.hid h
  have hlen := h.len
  clear h
  go_enter Try.func16, Try.ntmps16
  go_wp2
  go_loop [5] (fun v5 => ∃ i : Nat, i ≤ names.length ∧ v5 = .int .i64 (i : Int) ∧ s.data.toList ∉ names.take i) (fun v5 => names.length - (intOf v5).toNat)
  case atStart => exact ⟨0, Nat.zero_le _, rfl, by simp⟩
  case round =>
    obtain ⟨i, hi, rfl, hno⟩ := hrel
    by_cases hlt : i < names.length
    · obtain ⟨q, t, g, off, la, lc, hq, ht, rfl, hcell, hp⟩ := H.out.get hlt
      obtain ⟨p1, p2, p3, p4, p5⟩ := hp
      have k0 := cells_of p3 0 (.string ⟨q.toArray⟩) rfl
      have k2 := cells_of p3 2 (.slice la t.2.length lc) rfl
      have i0 : (0 : Int) ≤ (i : Int) := by omega
      have i1 : (i : Int) < (names.length : Int) := by omega
      clear p1 p2 p3 p4
      by_cases he : q = s.data.toList
      · have t1 := vs_eq he
        have HRES := Lib.hid (show lenF (S s.data.toList) = (t.2.length : Int) by rw [← he, ht]; rfl)
        clear hno ht hq he
        go_wp2
        go_ret
        exact ⟨by rw [HRES.out]; rfl, rfl⟩
      · have t1 := vs_neq he
        have hno2 := take_no hno hq he
        clear hno ht hq he
        go_wp2
        exact ⟨⟨i + 1, by omega, by go_num, hno2⟩, by simp [intOf]; omega⟩
    · have hS : S s.data.toList = none := by
        cases hs : S s.data.toList with
        | none => rfl
        | some t =>
          have hm := (H.out.mem s.data.toList).2 (by rw [hs]; rfl)
          rw [List.take_of_length_le (by omega)] at hno
          exact absurd hm hno
      have HRES := Lib.hid (show lenF (S s.data.toList) = 0 by rw [hS]; rfl)
      clear hno hS
      go_wp2
      go_ret
      exact ⟨by rw [HRES.out]; rfl, rfl⟩
def RAtPost (w : World) (rb : Nat) (most : Int) (N : Nat) (tag : Nat → Option Tag) (S : Nm → Option Tn) (nm : Nm) (t : Tn) (e : Ending) (w' : World) : Prop :=
  ∃ tag' tv' names' pt', e = .returned (.pointer (some ⟨pt' nm, 0, none⟩)) ∧ RepR w' rb most (N + 1) tag' tv' names' pt' (upd S nm (some t)) ∧ TStep w tag w' tag' ∧ nm ∈ names'
theorem rat_same {w : World} {rb : Nat} {most : Int} {N : Nat} {tag : Nat → Option Tag} {tv : Value} {names : List Nm} {pt : Nm → Nat} {S : Nm → Option Tn} (h : RepR w rb most N tag tv names pt S) {nm : Nm} {t : Tn} (hS : S nm = some t) :
    RAtPost w rb most N tag S nm t (.returned (.pointer (some ⟨pt nm, 0, none⟩))) w := by
  obtain ⟨lv, hp⟩ := h.parts nm t hS
  obtain ⟨r1, r2⟩ := h.step (Nat.le_succ N) (Turn.refl _ _) (fun _ _ => rfl) h.lt ((h.mem nm).2 (by rw [hS]; rfl)) (hp.kept (fun _ _ => ⟨rfl, rfl⟩) (Nat.le_succ N))
  exact ⟨tag, tv, names, pt, rfl, r1, r2, (h.mem nm).2 (by rw [hS]; rfl)⟩
theorem rat_newer {w : World} {rb : Nat} {most : Int} {N : Nat} {tag : Nat → Option Tag} {tv : Value} {names : List Nm} {pt : Nm → Nat} {S : Nm → Option Tn} (h : RepR w rb most N tag tv names pt S) {nm : Nm} {t : Tn} (hS : S nm = some t) (rev : Int) :
    RAtPost w rb most N tag S nm (rev, []) (.returned (.pointer (some ⟨pt nm, 0, none⟩))) ((w.setCell ⟨pt nm, 1, none⟩ (.int .i64 rev)).setCell ⟨pt nm, 2, none⟩ (.slice none 0 0)) := by
  obtain ⟨lv, p1, p2, p3, p4, p5⟩ := h.parts nm t hS
  have hT : Turn (own tag nm) w ((w.setCell ⟨pt nm, 1, none⟩ (.int .i64 rev)).setCell ⟨pt nm, 2, none⟩ (.slice none 0 0)) := (Turn.setCell w _ _ (.inl p1)).trans (Turn.setCell _ _ _ (.inl p1)) (fun _ h _ => h)
  obtain ⟨r1, r2⟩ := h.step (Nat.le_succ N) hT (fun _ _ => rfl) (fun b hb => Nat.lt_of_lt_of_le (h.lt b hb) hT.size) ((h.mem nm).2 (by rw [hS]; rfl)) (x := (rev, [])) (lv := .slice none 0 0)
    ⟨p1, (by intro g hg; cases hg), heap_setCell_same _ (pt nm) 2 _ _ _ (heap_setCell_same w (pt nm) 1 _ _ _ p3), QRow.nil _ _ _, Nat.zero_le _⟩
  exact ⟨tag, tv, names, pt, rfl, r1, r2, (h.mem nm).2 (by rw [hS]; rfl)⟩
theorem rat_new {w w1 w2 w3 : World} {rb : Nat} {most : Int} {N : Nat} {tag : Nat → Option Tag} {tv tv' : Value} {names : List Nm} {pt : Nm → Nat} {S : Nm → Option Tn} (h : RepR w rb most N tag tv names pt S) {nm : Nm} (hS : S nm = none) (rev : Int)
    (h1 : w1 = w.alloc (.cells #[vs nm, .int .i64 rev, .slice none 0 0] 53)) {o : Obj} (hq : QRow w2 49 1 tv' (names.length + 1) (names.map (fun nm => .pointer (some ⟨pt nm, 0, none⟩)) ++ [.pointer (some ⟨w.heap.size, 0, none⟩)]))
    (hg : (w1.alloc o).grownBy w2 tv.ownBlock) (hblk : ∀ g, tv'.ownBlock = some g → tv.ownBlock = some g ∨ w.heap.size + 2 ≤ g) (h3 : w3 = w2.setCell ⟨rb, 1, none⟩ tv') :
    RAtPost w rb most N tag S nm (rev, []) (.returned (.pointer (some ⟨w.heap.size, 0, none⟩))) w3 := by
  subst h1
  have hrb := (Array.getElem?_eq_some_iff.1 h.hc).1
  have hnn : nm ∉ names := fun hm => by have := (h.mem nm).1 hm; rw [hS] at this; cases this
  have hs2 : w.heap.size + 2 ≤ w2.heap.size := by have := hg.size; simp at this; omega
  have hs3 : w3.heap.size = w2.heap.size := by rw [h3]; simp
  have hold : ∀ b, b < w.heap.size → tv.ownBlock ≠ some b → w2.heap[b]? = w.heap[b]? := fun b hb hne => by
    rw [hg.block b (by simp; omega) (fun e => hne e.symm), alloc2_old _ _ hb]
  have hold3 : ∀ b, b < w.heap.size → tv.ownBlock ≠ some b → b ≠ rb → w3.heap[b]? = w.heap[b]? := fun b hb hne hr => by
    rw [h3, heap_setCell_other _ _ _ _ hr, hold b hb hne]
  have htv : ∀ g, tv.ownBlock = some g → g < w.heap.size := fun g hg' => h.lt g (by simp [h.tt g hg'])
  have hrt : tv.ownBlock ≠ some rb := fun e => by have := h.tt rb e; rw [h.tc] at this; cases this
  have hr2 : w2.heap[rb]? = some (.cells #[.int .i64 most, tv] 29 (0, 0)) := (hold rb hrb hrt).trans h.hc
  have hnew : ∀ g, tv'.ownBlock = some g → g ≠ w.heap.size ∧ g ≠ rb := fun g hg' => by
    rcases hblk g hg' with h' | h'
    · exact ⟨by have := htv g h'; omega, fun e => hrt (e ▸ h')⟩
    · omega
  have hp3 : w3.heap[w.heap.size]? = some (.cells #[vs nm, .int .i64 rev, .slice none 0 0] 53 (0, 0)) := by
    rw [h3, heap_setCell_other _ _ _ _ (show w.heap.size ≠ rb by omega), hg.block _ (by simp; omega) (fun e => by have := htv _ e.symm; omega), alloc_old _ (by simp)]
    exact heap_alloc_new w _
  have tagv : ∀ b, b < w.heap.size → (if b = w.heap.size then some (Tag.part nm) else if tv'.ownBlock = some b then some Tag.map else tag b) = tag b := fun b hb => by
    rw [if_neg (by omega)]
    split
    · rename_i e
      rcases hblk b e with h' | h'
      · exact (h.tt b h').symm
      · omega
    · rfl
  refine ⟨fun b => if b = w.heap.size then some (.part nm) else if tv'.ownBlock = some b then some .map else tag b, tv', names ++ [nm], fun q => if q = nm then w.heap.size else pt q, by simp, ⟨?_, ?_, ?_, ?_, ?_, ?_, ?_, ?_, ?_⟩, ⟨?_, tagv⟩, by simp⟩
  · exact (tagv rb hrb).trans h.tc
  · rw [h3]; exact heap_setCell_same w2 rb 1 _ _ _ hr2
  · intro g hg'
    simp [(hnew g hg').1, hg']
  · have hk := hq.kept (w' := w3) fun g hg' => by rw [h3, heap_setCell_other _ _ _ _ (hnew g hg').2]
    have e : (names ++ [nm]).map (fun q => Value.pointer (some ⟨if q = nm then w.heap.size else pt q, 0, none⟩)) = names.map (fun nm => .pointer (some ⟨pt nm, 0, none⟩)) ++ [.pointer (some ⟨w.heap.size, 0, none⟩)] := by
      rw [List.map_append]
      congr 1
      · refine List.map_congr_left fun q hqm => ?_
        have : q ≠ nm := fun e => hnn (e ▸ hqm)
        simp [this]
      · simp
    rw [e, List.length_append]
    exact hk
  · rw [List.length_append]; have := h.len; simp; omega
  · rw [List.nodup_append]
    refine ⟨h.nd, by simp, ?_⟩
    intro a ha b hb e
    have hb' : b = nm := by simpa using hb
    exact hnn (hb' ▸ e ▸ ha)
  · intro b hb
    by_cases e1 : b = w.heap.size
    · omega
    · rw [if_neg e1] at hb
      split at hb
      · rename_i e
        have := hq.block_lt e
        omega
      · have := h.lt b hb; omega
  · intro q
    by_cases hqn : q = nm
    · subst hqn; rw [upd_same]; simp
    · rw [upd_other _ _ hqn, ← h.mem q]; simp [hqn]
  · intro q t ht
    by_cases hqn : q = nm
    · subst hqn
      rw [upd_same] at ht
      cases ht
      exact ⟨.slice none 0 0, by simp, (by intro g hg; cases hg), by simpa using hp3, QRow.nil _ _ _, Nat.zero_le _⟩
    · rw [upd_other _ _ hqn] at ht
      obtain ⟨lv, hp⟩ := h.parts q t ht
      refine ⟨lv, ?_⟩
      simp only [hqn, if_false]
      refine hp.kept (fun b hb => ?_) (Nat.le_succ N)
      have hlt := h.lt b (by rcases hb with e | e | e <;> simp [e])
      refine ⟨hold3 b hlt (fun e => ?_) (fun e => ?_), tagv b hlt⟩
      · have := h.tt b e
        rcases hb with e | e | e <;> rw [this] at e <;> cases e
      · have := h.tc
        rw [← e] at this
        rcases hb with e | e | e <;> rw [this] at e <;> cases e
  · refine ⟨by rw [h3]; exact hg.os, by rw [h3]; exact hg.tape, by rw [h3]; exact hg.output, by omega, fun b hb hn => hold3 b hb (fun e => hn ?_) (fun e => hn ?_)⟩
    · simp [fp, h.tt b e]
    · rw [e]; simp [fp, h.tc]
end Go.Proofs.Ytfmekhebdpjdkaa.C

/-
  The cache in memory: what it reads as; New, at, Get, Put, Drop, Len.
-/
import Derived.Test.YtfmekhebdpjdkaaCacheA
namespace Go.Proofs.Ytfmekhebdpjdkaa.C
open Go.RowKit Go.Proofs.Ytfmekhebdpjdkaa.B
open Go.Maps (Keyed)
set_option linter.unusedVariables false
set_option linter.unusedSimpArgs false

inductive Tag where
  | top | map | part (q : Nm) | ans (q : Nm) | ord (q : Nm)
abbrev Tn := Int × List (Nm × Bool)
def vs (q : Nm) : Value := .string ⟨q.toArray⟩
theorem law : Keyed Try.prog 9 := Maps.string_keyed Try.underlying9
theorem zeroP (w : World) : (zeroValue 43).run Try.prog w = .ok (.pointer none) w := by kernel_rfl
theorem zeroB (w : World) : (zeroValue 4).run Try.prog w = .ok (.bool false) w := by kernel_rfl
noncomputable def PE : Elem Try.prog Nat := ptrE _
noncomputable def BE : Elem Try.prog Bool := boolE _ 4 Try.underlying4
theorem key_mk (s : ByteArray) (hs : s.size ≤ maxLen) : keyOf Try.prog 9 (.string s) = some (.string s.data.toList) := WideMaps.keyOf_string_mk Try.underlying9 hs
def Part (w : World) (N : Nat) (tag : Nat → Option Tag) (nm : Nm) (pb : Nat) (t : Tn) : Prop :=
  ∃ ab ov, tag pb = some (.part nm) ∧ tag ab = some (.ans nm) ∧ (∀ g, ov.ownBlock = some g → tag g = some (.ord nm)) ∧
    w.heap[pb]? = some (.cells #[.int .i64 t.1, .map (some ab), ov] 48 (0, 0)) ∧ OwnF BE w 9 ab N (fun q => t.2.lookup q) ∧
    QRow w 9 1 ov t.2.length (t.2.map fun p => vs p.1) ∧ t.2.length ≤ N ∧ (t.2.map Prod.fst).Nodup ∧ ∀ p ∈ t.2, p.1.length ≤ maxLen
structure Rep (w : World) (cb : Nat) (most : Int) (N : Nat) (tag : Nat → Option Tag) (mb : Nat) (pm : Nm → Option Nat) (S : Nm → Option Tn) : Prop where
  tc : tag cb = some .top
  tm : tag mb = some .map
  hc : w.heap[cb]? = some (.cells #[.int .i64 most, .map (some mb)] 42 (0, 0))
  hm : OwnF PE w 9 mb N pm
  lt : ∀ b, tag b ≠ none → b < w.heap.size
  same : ∀ nm, (pm nm).isSome = (S nm).isSome
  parts : ∀ nm pb t, pm nm = some pb → S nm = some t → Part w N tag nm pb t
theorem Part.kept {w w' : World} {N N' : Nat} {tag tag' : Nat → Option Tag} {nm : Nm} {pb : Nat} {t : Tn} (h : Part w N tag nm pb t)
    (hb : ∀ b, (tag b = some (.part nm) ∨ tag b = some (.ans nm) ∨ tag b = some (.ord nm)) → w'.heap[b]? = w.heap[b]? ∧ tag' b = tag b) (hN : N ≤ N') : Part w' N' tag' nm pb t := by
  obtain ⟨ab, ov, h1, h2, h3, h4, h5, h6, h7, h8, h9⟩ := h
  refine ⟨ab, ov, ?_, ?_, ?_, ?_, ?_, ?_, Nat.le_trans h7 hN, h8, h9⟩
  · rw [(hb pb (.inl h1)).2]; exact h1
  · rw [(hb ab (.inr (.inl h2))).2]; exact h2
  · intro g hg
    rw [(hb g (.inr (.inr (h3 g hg)))).2]; exact h3 g hg
  · rw [(hb pb (.inl h1)).1]; exact h4
  · exact (h5.kept (hb ab (.inr (.inl h2))).1).mono hN
  · exact h6.kept fun g hg => (hb g (.inr (.inr (h3 g hg)))).1
def fp (tag : Nat → Option Tag) : Nat → Prop := fun b => tag b ≠ none
/-- what a call on a cache may turn. -/
def TStep (w : World) (tag : Nat → Option Tag) (w' : World) (tag' : Nat → Option Tag) : Prop := Turn (fp tag) w w' ∧ ∀ b, b < w.heap.size → tag' b = tag b
theorem TStep.refl (w : World) (tag : Nat → Option Tag) : TStep w tag w tag := ⟨Turn.refl _ _, fun _ _ => rfl⟩
theorem TStep.trans {a b c : World} {t0 t1 t2 : Nat → Option Tag} (h : TStep a t0 b t1) (h' : TStep b t1 c t2) : TStep a t0 c t2 :=
  ⟨h.1.trans h'.1 (fun k hk hlt => by
    unfold fp at hk ⊢
    rw [← h.2 k hlt]; exact hk), fun k hk => (h'.2 k (Nat.lt_of_lt_of_le hk h.1.size)).trans (h.2 k hk)⟩
theorem Rep.kept {w w' : World} {cb : Nat} {most : Int} {N : Nat} {tag : Nat → Option Tag} {mb : Nat} {pm : Nm → Option Nat} {S : Nm → Option Tn} (h : Rep w cb most N tag mb pm S)
    (hb : ∀ b, fp tag b → w'.heap[b]? = w.heap[b]?) (hs : w.heap.size ≤ w'.heap.size) : Rep w' cb most N tag mb pm S :=
  ⟨h.tc, h.tm, (hb cb (by simp [fp, h.tc])).trans h.hc, h.hm.kept (hb mb (by simp [fp, h.tm])), fun b hb' => Nat.lt_of_lt_of_le (h.lt b hb') hs, h.same,
    fun nm pb t h1 h2 => (h.parts nm pb t h1 h2).kept (fun b hb' => ⟨hb b (by rcases hb' with e | e | e <;> simp [fp, e]), rfl⟩) (Nat.le_refl _)⟩
theorem Rep.below {w w' : World} {cb : Nat} {most : Int} {N : Nat} {tag : Nat → Option Tag} {mb : Nat} {pm : Nm → Option Nat} {S : Nm → Option Tn} (h : Rep w cb most N tag mb pm S) (hb : Below w.heap.size w w') : Rep w' cb most N tag mb pm S :=
  h.kept (fun b hb' => hb.block b (h.lt b hb')) hb.size
theorem Rep.mono {w : World} {cb : Nat} {most : Int} {N N' : Nat} {tag : Nat → Option Tag} {mb : Nat} {pm : Nm → Option Nat} {S : Nm → Option Tn} (h : Rep w cb most N tag mb pm S) (hN : N ≤ N') : Rep w cb most N' tag mb pm S :=
  ⟨h.tc, h.tm, h.hc, h.hm.mono hN, h.lt, h.same, fun nm pb t h1 h2 => (h.parts nm pb t h1 h2).kept (fun _ _ => ⟨rfl, rfl⟩) hN⟩
/-- one tenant's part is another one. -/
theorem Rep.turn {w w' : World} {cb : Nat} {most : Int} {N N' : Nat} {tag tag' : Nat → Option Tag} {mb : Nat} {pm pm' : Nm → Option Nat} {S : Nm → Option Tn} (h : Rep w cb most N tag mb pm S) (hN : N ≤ N') (nm : Nm) (t : Option Tn)
    (hc : w'.heap[cb]? = some (.cells #[.int .i64 most, .map (some mb)] 42 (0, 0))) (hm : OwnF PE w' 9 mb N' pm') (hlt : ∀ b, tag' b ≠ none → b < w'.heap.size) (htag : ∀ b, tag b ≠ none → tag' b = tag b)
    (hs : (pm' nm).isSome = t.isSome) (ho : ∀ q, q ≠ nm → pm' q = pm q) (hp : ∀ pb x, pm' nm = some pb → t = some x → Part w' N' tag' nm pb x)
    (hk : ∀ b q, q ≠ nm → (tag b = some (.part q) ∨ tag b = some (.ans q) ∨ tag b = some (.ord q)) → w'.heap[b]? = w.heap[b]?) : Rep w' cb most N' tag' mb pm' (upd S nm t) := by
  refine ⟨by rw [htag cb (by simp [h.tc])]; exact h.tc, by rw [htag mb (by simp [h.tm])]; exact h.tm, hc, hm, hlt, fun q => ?_, fun q pb x h1 h2 => ?_⟩
  · by_cases hq : q = nm
    · subst hq; rw [upd_same, hs]
    · rw [upd_other _ _ hq, ho q hq]; exact h.same q
  · by_cases hq : q = nm
    · subst hq; rw [upd_same] at h2; exact hp pb x h1 h2
    · rw [upd_other _ _ hq] at h2
      rw [ho q hq] at h1
      exact (h.parts q pb x h1 h2).kept (fun b hb => ⟨hk b q hq hb, htag b (by rcases hb with e | e | e <;> simp [e])⟩) hN
def atF (rev : Int) : Option Tn → Tn
  | none => (rev, [])
  | some (r, l) => if rev > r then (rev, []) else (r, l)
def AtPost (w : World) (cb : Nat) (most : Int) (N : Nat) (tag : Nat → Option Tag) (mb : Nat) (S : Nm → Option Tn) (nm : Nm) (t : Tn) (e : Ending) (w' : World) : Prop :=
  ∃ pb tag' pm', e = .returned (.pointer (some ⟨pb, 0, none⟩)) ∧ pm' nm = some pb ∧ Rep w' cb most (N + 1) tag' mb pm' (upd S nm (some t)) ∧ TStep w tag w' tag'
theorem cells_of {w : World} {b : Nat} {cs : Array Value} {e : TypeId} (h : w.heap[b]? = some (.cells cs e (0, 0))) (o : Nat) (v : Value) (ho : cs[o]? = some v) : w.cell? ⟨b, o, none⟩ = some v := by
  rw [cell_of_row w b o cs e (0, 0) h]; exact ho
theorem frz_of {w : World} {b : Nat} {cs : Array Value} {e : TypeId} (h : w.heap[b]? = some (.cells cs e (0, 0))) (o : Nat) : w.frozen? ⟨b, o, none⟩ = false := frozen_of_row w b o cs e h
theorem alloc_old {w : World} (o : Obj) {b : Nat} (hb : b < w.heap.size) : (w.alloc o).heap[b]? = w.heap[b]? := (Turn.alloc (fp := fun _ => False) w o).block b hb (fun h => h)
theorem alloc2_old {w : World} (o o' : Obj) {b : Nat} (hb : b < w.heap.size) : ((w.alloc o).alloc o').heap[b]? = w.heap[b]? := by
  rw [alloc_old o' (by simp; omega), alloc_old o hb]
def own (tag : Nat → Option Tag) (nm : Nm) : Nat → Prop := fun b => tag b = some (.part nm) ∨ tag b = some (.ans nm) ∨ tag b = some (.ord nm)
theorem Rep.step {w w' : World} {cb : Nat} {most : Int} {N N' : Nat} {tag tag' : Nat → Option Tag} {mb : Nat} {pm : Nm → Option Nat} {S : Nm → Option Tn} (h : Rep w cb most N tag mb pm S) (hN : N ≤ N') {nm : Nm} {pb : Nat} {x : Tn}
    (hT : Turn (own tag nm) w w') (htag : ∀ b, b < w.heap.size → tag' b = tag b) (hlt : ∀ b, tag' b ≠ none → b < w'.heap.size) (hpm : pm nm = some pb) (hp : Part w' N' tag' nm pb x) :
    Rep w' cb most N' tag' mb pm (upd S nm (some x)) ∧ TStep w tag w' tag' := by
  refine ⟨h.turn hN nm (some x) ?_ ?_ hlt (fun b hb => htag b (h.lt b hb)) (by rw [hpm]; rfl) (fun _ _ => rfl) ?_ ?_, hT.mono (fun k hk _ => ?_), htag⟩
  · rw [hT.block cb (h.lt cb (by simp [h.tc])) (by simp [own, h.tc])]; exact h.hc
  · exact (h.hm.kept (hT.block mb (h.lt mb (by simp [h.tm])) (by simp [own, h.tm]))).mono hN
  · intro pb' x' h1 h2
    rw [hpm] at h1
    cases h1; cases h2
    exact hp
  · intro b q hq hb
    refine hT.block b (h.lt b (by rcases hb with e | e | e <;> simp [e])) (fun ho => ?_)
    rcases hb with e | e | e <;> rcases ho with o | o | o <;> rw [e] at o <;> cases o <;> exact hq rfl
  · rcases hk with e | e | e <;> simp [fp, e]
theorem at_none_post {w w3 : World} {cb : Nat} {most : Int} {N : Nat} {tag : Nat → Option Tag} {mb : Nat} {pm : Nm → Option Nat} {S : Nm → Option Tn} (h : Rep w cb most N tag mb pm S) (nm : Nm) (rev : Int) (hpm : pm nm = none)
    (hm3 : OwnF PE w3 9 mb (N + 1) (upd pm nm (some (w.heap.size + 1))))
    (hg3 : ((w.alloc (.map #[] 0)).alloc (.cells #[.int .i64 rev, .map (some w.heap.size), .slice none 0 0] 48)).grownBy w3 (some mb)) :
    AtPost w cb most N tag mb S nm (rev, []) (.returned (.pointer (some ⟨w.heap.size + 1, 0, none⟩))) w3 := by
  have hsz : w.heap.size + 2 ≤ w3.heap.size := by simpa using hg3.size
  have hmb := h.hm.lt
  have hold : ∀ b, b < w.heap.size → b ≠ mb → w3.heap[b]? = w.heap[b]? := fun b hb hne => by
    rw [hg3.block b (by simp; omega) (fun e => hne (Option.some.inj e)), alloc2_old _ _ hb]
  have hcb : cb < w.heap.size := h.lt cb (by simp [h.tc])
  have hne : cb ≠ mb := fun e => by have := h.tm; rw [← e, h.tc] at this; cases this
  have hdom : ∀ b, tag b ≠ none → b ≠ w.heap.size ∧ b ≠ w.heap.size + 1 := fun b hb => by have := h.lt b hb; omega
  refine ⟨w.heap.size + 1, fun b => if b = w.heap.size + 1 then some (.part nm) else if b = w.heap.size then some (.ans nm) else tag b, _, rfl, upd_same _ _ _,
    h.turn (by omega) nm (some (rev, [])) ((hold cb hcb hne).trans h.hc) hm3 ?_ ?_ ?_ ?_ ?_ ?_, ⟨?_, ?_⟩⟩
  · intro b hb
    split at hb
    · omega
    · split at hb
      · omega
      · have := h.lt b hb; omega
  · intro b hb
    have := hdom b hb
    simp [this.1, this.2]
  · rw [upd_same]; rfl
  · exact fun q hq => upd_other _ _ hq
  · intro pb x h1 h2
    rw [upd_same] at h1
    cases h1; cases h2
    refine ⟨w.heap.size, .slice none 0 0, by simp, by simp, (by intro g hg; cases hg), ?_, ?_, QRow.nil _ _ _, Nat.zero_le _, List.nodup_nil, by simp⟩
    · rw [hg3.block _ (by simp) (fun e => by have := Option.some.inj e; omega)]
      have := heap_alloc_new (w.alloc (.map #[] 0)) (.cells #[.int .i64 rev, .map (some w.heap.size), .slice none 0 0] 48)
      simpa using this
    · have h0 := OwnF.made BE w 9
      refine ((h0.kept (w' := w3) ?_).mono (Nat.zero_le _)).congr fun q => rfl
      rw [hg3.block _ (by simp; omega) (fun e => by have := Option.some.inj e; omega), alloc_old _ (by simp)]
  · intro b q hq hb
    refine hold b (h.lt b (by rcases hb with e | e | e <;> simp [e])) (fun e => ?_)
    rw [e, h.tm] at hb
    rcases hb with e | e | e <;> cases e
  · refine ⟨hg3.os, hg3.tape, hg3.output, by omega, fun b hb hn => hold b hb (fun e => hn ?_)⟩
    rw [e]; simp [fp, h.tm]
  · intro b hb
    have h1 : b ≠ w.heap.size + 1 := by omega
    have h2 : b ≠ w.heap.size := by omega
    simp [h1, h2]
set_option maxRecDepth 100000 in
set_option maxHeartbeats 1000000 in
theorem at_none {w : World} {cb : Nat} {most : Int} {N : Nat} {tag : Nat → Option Tag} {mb : Nat} {pm : Nm → Option Nat} {S : Nm → Option Tn} (h : Rep w cb most N tag mb pm S) (hN : N < 100000) (s : ByteArray) (hs : s.size ≤ maxLen) (rev : Int) (hS : S s.data.toList = none) :
    Calls Try.prog 17 #[.pointer (some ⟨cb, 0, none⟩), .string s, .int .i64 rev] w (AtPost w cb most N tag mb S s.data.toList (rev, [])) := by
  have hpm : pm s.data.toList = none := by
    have := h.same s.data.toList
    rw [hS] at this
    simpa using this
  have hc1 := cells_of h.hc 1 (.map (some mb)) rfl
  have hcb : cb < w.heap.size := h.lt cb (by simp [h.tc])
  have hmm := @run_makeMap Try.prog
  have H := Lib.hid h; clear h
  go_enter Try.func17, Try.ntmps17
  go_wp2_with (first
    | (at_lookup; refine wpList_look PE rfl _ _ 40 43 rfl law Try.underlying40 (zeroP _) rfl H.out.hm _ _ rfl (key_mk s hs) (.pointer none) (by rw [hpm]; rfl) ?_)
    | (at_mapUpdate; go_loud (refine wpList_store PE rfl _ _ _ 40 43 rfl law Try.underlying40 (by unfold maxLen; omega) rfl (H.out.hm.kept (alloc2_old _ _ H.out.hm.lt)) _ _ rfl (key_mk s hs) (w.heap.size + 1) rfl ?_); intro w3 hm3 hg3))
  go_ret
  exact at_none_post H.out _ rev hpm hm3 hg3
set_option maxRecDepth 100000 in
set_option maxHeartbeats 1000000 in
theorem at_some {w : World} {cb : Nat} {most : Int} {N : Nat} {tag : Nat → Option Tag} {mb : Nat} {pm : Nm → Option Nat} {S : Nm → Option Tn} (h : Rep w cb most N tag mb pm S) (hN : N < 100000) (s : ByteArray) (hs : s.size ≤ maxLen) (rev : Int) (r : Int) (l : List (Nm × Bool)) (hS : S s.data.toList = some (r, l)) :
    Calls Try.prog 17 #[.pointer (some ⟨cb, 0, none⟩), .string s, .int .i64 rev] w (AtPost w cb most N tag mb S s.data.toList (atF rev (some (r, l)))) := by
  obtain ⟨pb, hpm⟩ : ∃ pb, pm s.data.toList = some pb := by
    have := h.same s.data.toList
    rw [hS] at this
    exact Option.isSome_iff_exists.1 this
  obtain ⟨ab, ov, t1, t2, t3, hp, ha, hq, hl, hnd, hml⟩ := h.parts _ pb (r, l) hpm hS
  have hc1 := cells_of h.hc 1 (.map (some mb)) rfl
  have hcb : cb < w.heap.size := h.lt cb (by simp [h.tc])
  have hp0 := cells_of hp 0 (.int .i64 r) rfl
  have hp1 := cells_of hp 1 (.map (some ab)) rfl
  have hp2 := cells_of hp 2 ov rfl
  have f0 := frz_of hp 0
  have f2 := frz_of hp 2
  have hab : ab ≠ pb := fun e => by rw [e, t1] at t2; cases t2
  have hA := (show OwnF BE ((w.setCell ⟨pb, 0, none⟩ (.int .i64 rev)).setCell ⟨pb, 2, none⟩ (.slice none 0 0)) 9 ab N (fun q => l.lookup q) from ha.kept (by rw [heap_setCell_other _ _ _ _ hab, heap_setCell_other _ _ _ _ hab]))
  obtain ⟨w3, hclr, hm3, hg3⟩ := hA.clear Try.underlying45 0
  have HP := Lib.hid hp
  have T1 := Lib.hid t1
  have T2 := Lib.hid t2
  have H := Lib.hid h; clear h hp ha hq hml t1 t2 t3 hA
  go_enter Try.func17, Try.ntmps17
  go_wp2_with (first
    | (at_lookup; refine wpList_look PE rfl _ _ 40 43 rfl law Try.underlying40 (zeroP _) rfl H.out.hm _ _ rfl (key_mk s hs) (.pointer (some ⟨pb, 0, none⟩)) (by rw [hpm]; rfl) ?_)
    | fail)
  · go_ret
    rw [show atF rev (some (r, l)) = (rev, []) by simp [atF]; omega]
    have hp3 : w3.heap[pb]? = some (.cells #[.int .i64 rev, .map (some ab), .slice none 0 0] 48 (0, 0)) := by
      rw [hg3.block pb (by simpa using (Array.getElem?_eq_some_iff.1 HP.out).1) (fun e => hab (Option.some.inj e).symm)]
      exact heap_setCell_same _ pb 2 _ _ _ (heap_setCell_same w pb 0 _ _ _ HP.out)
    have hT : Turn (own tag s.data.toList) w w3 := ((Turn.setCell w _ _ (.inl T1.out)).trans (Turn.setCell _ _ _ (.inl T1.out)) (fun _ h _ => h)).trans (Turn.grown hg3 (fun k hk => by cases hk; exact .inr (.inl T2.out))) (fun _ h _ => h)
    obtain ⟨h1, h2⟩ := H.out.step (by omega) hT (fun _ _ => rfl) (fun b hb => Nat.lt_of_lt_of_le (H.out.lt b hb) hT.size) hpm (N' := N + 1) (x := (rev, []))
      ⟨ab, .slice none 0 0, T1.out, T2.out, (by intro g hg; cases hg), hp3, (hm3.mono (Nat.le_succ _)).congr (fun q => rfl), QRow.nil _ _ _, Nat.zero_le _, List.nodup_nil, by simp⟩
    exact ⟨pb, tag, pm, rfl, hpm, h1, h2⟩
  · go_ret
    rw [show atF rev (some (r, l)) = (r, l) by simp [atF]; omega]
    obtain ⟨h1, h2⟩ := H.out.step (by omega) (Turn.refl _ _) (fun _ _ => rfl) H.out.lt hpm (N' := N + 1) (x := (r, l)) ((H.out.parts _ pb (r, l) hpm hS).kept (fun _ _ => ⟨rfl, rfl⟩) (Nat.le_succ _))
    exact ⟨pb, tag, pm, rfl, hpm, h1, h2⟩
end Go.Proofs.Ytfmekhebdpjdkaa.C

/-
  The cache: Put, walked where the answer is new; Put in one contract.
-/
import Derived.Test.YtfmekhebdpjdkaaCacheF
import Derived.StillTailTactics
namespace Go.Proofs.Ytfmekhebdpjdkaa.C
open Go.RowKit Go.Proofs.Ytfmekhebdpjdkaa.B
open Go.Maps (Keyed)
set_option linter.unusedVariables false
set_option linter.unusedSimpArgs false

set_option maxRecDepth 100000 in
set_option maxHeartbeats 1000000 in
theorem Put_new {w : World} {cb : Nat} {most : Int} {N : Nat} {tag : Nat → Option Tag} {mb : Nat} {pm : Nm → Option Nat} {S : Nm → Option Tn} (h : Rep w cb most N tag mb pm S) (hN : N < 100000) (s : ByteArray) (hs : s.size ≤ maxLen) (rev : Int) (q : ByteArray) (hq : q.size ≤ maxLen) (y : Bool)
    (l : List (Nm × Bool)) (hx : atF rev (S s.data.toList) = (rev, l)) (hm : ¬ most < 1) (hlen : (l.length : Int) ≤ most) (hno : l.lookup q.data.toList = none) :
    Calls Try.prog 11 #[.pointer (some ⟨cb, 0, none⟩), .string s, .int .i64 rev, .string q, .bool y] w (CPost w cb most (N + 2) tag mb (upd S s.data.toList (some (rev, if ((l ++ [(q.data.toList, y)]).length : Int) > most then (l ++ [(q.data.toList, y)]).drop 1 else l ++ [(q.data.toList, y)]))) (.tuple #[])) := by
  have hat := at_calls h hN s hs rev
  rw [hx] at hat
  clear hx
  have HAT := Lib.hid hat
  clear hat h
  obtain ⟨res, hres⟩ : ∃ res, (if ((l ++ [(q.data.toList, y)]).length : Int) > most then (l ++ [(q.data.toList, y)]).drop 1 else l ++ [(q.data.toList, y)]) = res := ⟨_, rfl⟩
  rw [hres]
  have HRES := Lib.hid hres
  clear hres
  obtain ⟨i0, hi, hz0, hz1, hz2⟩ := info_parts info_str
  have HI := Lib.hid hi; clear hi
  have HZ0 := Lib.hid hz0; clear hz0
  have HZ1 := Lib.hid hz1; clear hz1
  have HZ2 := Lib.hid hz2; clear hz2
  go_enter Try.func11, Try.ntmps11
  go_wp2_with fail
  refine HAT.out.mono ?_
  clear HAT
  rintro e w1 ⟨pb, tag1, pm1, rfl, hpm, hR, hT⟩
  obtain ⟨ab, ov, hX0⟩ := hR.parts _ pb _ hpm (upd_same _ _ _)
  have hX : PartX w1 (N + 1) tag1 s.data.toList pb (rev, l) ab ov := hX0
  have HX := Lib.hid hX
  clear hX0
  have hl : l.length ≤ N + 1 := hX.2.2.2.2.2.2.1
  obtain ⟨t1, t2, t3, hp, ha, hqr, _, hnd, hml⟩ := hX
  have hp0 := cells_of hp 0 (.int .i64 rev) rfl
  have hp1 := cells_of hp 1 (.map (some ab)) rfl
  have hp2 := cells_of hp 2 ov rfl
  have hc0 := cells_of hR.hc 0 (.int .i64 most) rfl
  have HA := Lib.hid ha
  have HQ := Lib.hid (hqr.kept (w' := w1.alloc (.cells #[.string q] 9)) fun g hg => alloc_old _ (hqr.block_lt hg))
  have HU := Lib.hid (show BE.get (l.lookup q.data.toList) = .bool false by rw [hno]; rfl)
  have HS := Lib.hid (show (l.lookup q.data.toList).isSome = false by rw [hno]; rfl)
  have HR := Lib.hid hR
  have HT := Lib.hid hT
  clear hR hT t1 t2 t3 hp ha hqr hnd hml
  go_wp2_with (first
    | (at_lookup; go_loud (refine wpList_look_ok BE rfl _ _ 45 4 rfl law Try.underlying45 (zeroB _) rfl HA.out _ _ rfl (key_mk q hq) _ false HU.out HS.out ?_))
    | (at_builtin; go_loud (refine wpList_append_q rfl _ _ 46 rfl 9 i0 (.string ByteArray.empty) 1 16 Try.underlying46 HI.out HZ0.out HZ1.out HZ2.out rfl (by decide) ov l.length (l.map fun p => vs p.1) rfl HQ.out ⟨w1.heap.size, 0, none⟩ 1 1 [.string q] rfl rfl (cell_one_new _ _ _) (by intro u hu; simp at hu; rw [hu]; rfl) (by unfold maxLen; omega) (by omega) ?_)))
  intro v' w2 hq2 hg2 hblk
  clear HQ hp0 hp1 hp2 hc0 HU HS
  have hX : PartX w1 (N + 1) tag1 s.data.toList pb (rev, l) ab ov := HX.out
  obtain ⟨t1, t2, t3, hp, ha, hqr, _, hnd, hml⟩ := hX
  have hpb := (Array.getElem?_eq_some_iff.1 hp).1
  have hcb := (Array.getElem?_eq_some_iff.1 HR.out.hc).1
  have hab := ha.lt
  have hpa : pb ≠ ab := fun e => by rw [e, t2] at t1; cases t1
  have hca : cb ≠ ab := fun e => by have := HR.out.tc; rw [e, t2] at this; cases this
  have hcp : cb ≠ pb := fun e => by have := HR.out.tc; rw [e, t1] at this; cases this
  have hs2 : w1.heap.size + 1 ≤ w2.heap.size := by have := hg2.size; simpa using this
  have hold : ∀ b, b < w1.heap.size → (∀ g, ov.ownBlock = some g → b ≠ g) → w2.heap[b]? = w1.heap[b]? := fun b hb hne => by
    rw [hg2.block b (by simp; omega) (fun e => hne b e.symm rfl), alloc_old _ hb]
  have hp2 : w2.heap[pb]? = some (.cells #[.int .i64 rev, .map (some ab), ov] 48 (0, 0)) := (hold pb hpb (fun g hg e => by have := t3 g hg; rw [← e, t1] at this; cases this)).trans hp
  have hc2 : w2.heap[cb]? = some (.cells #[.int .i64 most, .map (some mb)] 42 (0, 0)) := (hold cb hcb (fun g hg e => by have := t3 g hg; rw [← e, HR.out.tc] at this; cases this)).trans HR.out.hc
  have ha2 : OwnF BE (w2.setCell ⟨pb, 2, none⟩ v') 9 ab (N + 1) (fun q => l.lookup q) := ha.kept (by
    rw [heap_setCell_other _ _ _ _ (Ne.symm hpa)]
    exact hold ab hab (fun g hg e => by have := t3 g hg; rw [← e, t2] at this; cases this))
  have f2 := frz_of hp2 2
  have k1 := cells_of hp2 1 (.map (some ab)) rfl
  have k2 := cells_of hp2 2 ov rfl
  have HA2 := Lib.hid ha2
  have HF := Lib.hid (show ∀ w3, (w2.setCell ⟨pb, 2, none⟩ v').grownBy w3 (some ab) → w3.heap[pb]? = some (.cells #[.int .i64 rev, .map (some ab), v'] 48 (0, 0)) ∧ w3.heap[cb]? = some (.cells #[.int .i64 most, .map (some mb)] 42 (0, 0)) from fun w3 hg =>
    ⟨(hg.block pb (by simp; omega) (fun e => hpa (Option.some.inj e))).trans (heap_setCell_same w2 pb 2 _ _ _ hp2), (hg.block cb (by simp; omega) (fun e => hca (Option.some.inj e))).trans ((heap_setCell_other _ _ _ _ hcp).trans hc2)⟩)
  have HK := Lib.hid (fun w3 ho hg => new_keep HR.out hq (y := y) hpm HX.out hno hq2 hg2 hblk (w3 := w3) ho hg)
  rcases hq2.2 with ⟨_, h0⟩ | ⟨g, off, cap, cur, rfl, hgc, hnc, hcc, hcm, htk⟩
  · omega
  have hgb : g ≠ pb ∧ g ≠ ab := by
    rcases hblk g rfl with h' | h'
    · have := t3 g h'
      refine ⟨fun e => ?_, fun e => ?_⟩ <;> rw [e] at this
      · rw [t1] at this; cases this
      · rw [t2] at this; cases this
    · omega
  have HG := Lib.hid (show ∀ w3, (w2.setCell ⟨pb, 2, none⟩ (.slice (some ⟨g, off, none⟩) (l.length + 1) cap)).grownBy w3 (some ab) → ∀ p t, l ++ [(q.data.toList, y)] = p :: t → w3.cell? ⟨g, off, none⟩ = some (vs p.1) from fun w3 hg p t hpt => by
    have hgl := (Array.getElem?_eq_some_iff.1 hgc).1
    have h3 : w3.heap[g]? = some (.cells cur 9 (0, 0)) := (hg.block g (by simpa using hgl) (fun e => hgb.2 (Option.some.inj e))).trans ((heap_setCell_other _ _ _ _ hgb.1).trans hgc)
    refine cells_of h3 off _ ?_
    have e1 : (l.map (fun p => vs p.1) ++ [Value.string q]) = vs p.1 :: t.map (fun p => vs p.1) := by
      have := congrArg (List.map fun p : Nm × Bool => vs p.1) hpt
      simpa [vs_mk] using this
    rw [e1] at htk
    have e2 := congrArg (fun l : List Value => l[0]?) htk
    simpa [List.getElem?_take, List.getElem?_drop] using e2)
  clear hold hp2 hc2 ha2 t1 t2 t3 hp ha hqr hnd hml hq2 hg2 hblk hgc htk hab hpa hca hcp HA hgb hcc hcm hnc
  go_wp2_with (first
    | (at_mapUpdate; go_loud (refine wpList_store BE rfl _ _ _ 45 4 rfl law Try.underlying45 (by unfold maxLen; omega) rfl HA2.out _ _ rfl (key_mk q hq) y rfl ?_)))
  intro w3 ho hg3
  obtain ⟨hp3, hc3⟩ := HF.out w3 hg3
  obtain ⟨tag', hR3, hT3, hX3⟩ := HK.out w3 ho hg3
  have HG3 := Lib.hid (HG.out w3 hg3)
  have j0 := cells_of hp3 2 (.slice (some ⟨g, off, none⟩) (l.length + 1) cap) rfl
  have j1 := cells_of hp3 1 (.map (some ab)) rfl
  have j2 := cells_of hc3 0 (.int .i64 most) rfl
  have jf := frz_of hp3 2
  rw [upd_upd] at hR3
  have HR3 := Lib.hid hR3
  have HT3 := Lib.hid hT3
  have HX3 := Lib.hid hX3
  clear HF HK HG HA2 ho hg3 hp3 hc3 hR3 hT3 hX3 f2 k1 k2
  by_cases hgt : most < (l.length : Int) + 1
  · obtain ⟨p, t, hpt⟩ : ∃ p t, l ++ [(q.data.toList, y)] = p :: t := by
      cases l with
      | nil => exact ⟨_, _, rfl⟩
      | cons a l => exact ⟨_, _, rfl⟩
    have ht : t.length = l.length := by have := congrArg List.length hpt; simp at this; omega
    have e : res = t := by
      rw [← HRES.out, if_pos (by simp; omega), hpt]; rfl
    subst e
    have jg := HG3.out p res hpt
    have hX3 := HX3.out
    have hR3 := HR3.out
    have hT3 := HT3.out
    rw [hpt] at hX3 hR3
    have hml := hX3.2.2.2.2.2.2.2.2 p (by simp)
    have HA3 := Lib.hid hX3.2.2.2.2.1
    rw [← ht] at hX3
    have HT4 := Lib.hid hT3
    have HR4 := Lib.hid hR3
    have HX4 := Lib.hid hX3
    clear HRES HR3 HX3 HG3 hX3 hR3 hT3 hpt HT3
    go_wp2
    go_quiet (fail)
    go_wp2
    have hpos : (0 : Int) < (l.length : Int) + 1 := by omega
    have e0 : ∀ a, (w3.drewN nq).cell? a = w3.cell? a := fun _ => rfl
    have ef : ∀ a, (w3.drewN nq).frozen? a = w3.frozen? a := fun _ => rfl
    have HE := Lib.hid (show ∀ w4 r, (w3.drewN nq).drew.grownBy w4 r → w3.grownBy w4 r from fun w4 r h => ⟨h.os, h.tape, h.output, h.size, h.block⟩)
    rw [← e0] at j0 j1 j2 jg
    rw [← ef] at jf
    have HA5 := Lib.hid (show OwnF BE (w3.drewN nq).drew 9 ab (N + 1 + 1) (fun q => (p :: res).lookup q) from HA3.out.kept rfl)
    have jkey := key_mk ⟨p.1.toArray⟩ (by simpa [ByteArray.size] using hml)
    clear e0 ef HA3
    generalize w3.drewN nq = W at *
    go_still_tail 10, (by kernel_rfl)
    change wpList _ _ _ _ _ W.drew
    generalize hW : W.drew = W2 at *
    have jkey' : keyOf Try.prog 9 (vs p.1) = some (.string p.1) := by simpa [vs] using jkey
    refine wpList_drop BE rfl _ _ 45 rfl 4 law Try.underlying45 rfl HA5.out (vs p.1) p.1 rfl jkey' ?_
    intro w4 ho4 hg4
    have hpa : pb ≠ ab := fun e => by have := HX4.out.1; rw [e, HX4.out.2.1] at this; cases this
    have hg5 := HE.out w4 _ hg4
    have hp4 : w4.heap[pb]? = some (.cells #[.int .i64 rev, .map (some ab), .slice (some ⟨g, off, none⟩) (res.length + 1) cap] 48 (0, 0)) := (hg5.block pb (Array.getElem?_eq_some_iff.1 HX4.out.2.2.2.1).1 (fun e => hpa (Option.some.inj e))).trans HX4.out.2.2.2.1
    have m2 := cells_of hp4 2 (.slice (some ⟨g, off, none⟩) (res.length + 1) cap) rfl
    have mf := frz_of hp4 2
    obtain ⟨r1, r2⟩ := trim (k := 0) HR4.out hpm HX4.out ho4 hg5
    rw [upd_upd] at r1
    have hcap : res.length + 1 ≤ cap := by
      rcases HX4.out.2.2.2.2.2.1.2 with ⟨h', _⟩ | ⟨g', off', cap', cur', h', h2, h3, _⟩
      · cases h'
      · simp only [Value.slice.injEq] at h'
        have := h'.2.2
        simp only [List.length_cons] at h3
        omega
    have hpost : CPost w cb most (N + 2) tag mb (upd S s.data.toList (some (rev, res))) (.tuple #[]) (.returned (.tuple #[])) _ := ⟨tag', pm1, rfl, r1, HT.out.trans (HT4.out.trans r2)⟩
    have HP := Lib.hid hpost
    have hres : 1 ≤ res.length := by omega
    clear hpost r1 r2 ho4 hg4 hg5 hp4 hpa jkey jkey' HA5 HE HX4 HR4 HT4 HX HR HT
    clear j0 j1 j2 jf jg hW
    go_wp2
    have hP := HP.out
    rw [ht] at hP
    exact bodyPost_end (results_none rfl _ _ _) rfl hP
  · have e : res = l ++ [(q.data.toList, y)] := by
      rw [← HRES.out, if_neg (by simp; omega)]
    subst e
    have hpost : CPost w cb most (N + 2) tag mb (upd S s.data.toList (some (rev, l ++ [(q.data.toList, y)]))) (.tuple #[]) (.returned (.tuple #[])) w3 := ⟨tag', pm1, rfl, HR3.out, HT.out.trans HT3.out⟩
    have HP := Lib.hid hpost
    clear hpost HRES HR3 HX3
    go_wp2
    go_quiet (fail)
    go_wp2
    exact bodyPost_end (results_none rfl _ _ _) rfl (HP.out.drew _)
theorem CPost.mono {w : World} {cb : Nat} {most : Int} {N N' : Nat} {tag : Nat → Option Tag} {mb : Nat} {S' : Nm → Option Tn} {v : Value} {e : Ending} {w' : World} (h : CPost w cb most N tag mb S' v e w') (hN : N ≤ N') : CPost w cb most N' tag mb S' v e w' := by
  obtain ⟨tag', pm', h1, h2, h3⟩ := h
  exact ⟨tag', pm', h1, h2.mono hN, h3⟩
theorem Put_calls {w : World} {cb : Nat} {most : Int} {N : Nat} {tag : Nat → Option Tag} {mb : Nat} {pm : Nm → Option Nat} {S : Nm → Option Tn} (h : Rep w cb most N tag mb pm S) (hN : N < 100000) (s : ByteArray) (hs : s.size ≤ maxLen) (rev : Int) (q : ByteArray) (hq : q.size ≤ maxLen) (y : Bool)
    (hb : 1 ≤ most → ((atF rev (S s.data.toList)).2.length : Int) ≤ most) :
    Calls Try.prog 11 #[.pointer (some ⟨cb, 0, none⟩), .string s, .int .i64 rev, .string q, .bool y] w (CPost w cb most (N + 2) tag mb (upd S s.data.toList (some (putF most rev q.data.toList y (atF rev (S s.data.toList))))) (.tuple #[])) := by
  obtain ⟨x, hx⟩ : ∃ x, atF rev (S s.data.toList) = x := ⟨_, rfl⟩
  rw [hx] at hb ⊢
  by_cases hi : x.1 ≠ rev ∨ most < 1
  · rw [show putF most rev q.data.toList y x = x by unfold putF; rw [if_pos hi]]
    exact (Put_idle h hN s hs rev q hq y x hx hi).mono fun _ _ hp => hp.mono (by omega)
  · have h1 : x.1 = rev := Decidable.byContradiction fun hc => hi (.inl hc)
    have h2 : ¬ most < 1 := fun hc => hi (.inr hc)
    obtain ⟨x1, l⟩ := x
    simp only at h1
    subst h1
    cases hl : l.lookup q.data.toList with
    | none =>
      rw [show putF most x1 q.data.toList y (x1, l) = (x1, if ((l ++ [(q.data.toList, y)]).length : Int) > most then (l ++ [(q.data.toList, y)]).drop 1 else l ++ [(q.data.toList, y)]) by
        unfold putF; rw [if_neg hi, if_neg (by simp [hl])]]
      exact Put_new h hN s hs x1 q hq y l hx h2 (hb (by omega)) hl
    | some b =>
      rw [show putF most x1 q.data.toList y (x1, l) = (x1, repl q.data.toList y l) by
        unfold putF; rw [if_neg hi, if_pos (by simp [hl])]]
      exact Put_had h hN s hs x1 q hq y l hx h2 (hb (by omega)) (by simp [hl])
end Go.Proofs.Ytfmekhebdpjdkaa.C

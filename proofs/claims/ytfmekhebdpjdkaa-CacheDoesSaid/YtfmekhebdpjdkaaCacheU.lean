/-
  The document's cache: Put, walked.
-/
import Derived.Test.YtfmekhebdpjdkaaCacheS
import Derived.Test.YtfmekhebdpjdkaaCacheT
namespace Go.Proofs.Ytfmekhebdpjdkaa.C
open Go.RowKit Go.Proofs.Ytfmekhebdpjdkaa.B
set_option linter.unusedVariables false
set_option linter.unusedSimpArgs false

set_option maxRecDepth 100000 in
set_option maxHeartbeats 2000000 in
theorem RPut_calls {w : World} {rb : Nat} {most : Int} {N : Nat} {tag : Nat → Option Tag} {tv : Value} {names : List Nm} {pt : Nm → Nat} {S : Nm → Option Tn} (h : RepR w rb most N tag tv names pt S) (hN : N < 100000) (s : ByteArray) (rev : Int) (q : ByteArray) (y : Bool)
    (hnd : ((atF rev (S s.data.toList)).2.map Prod.fst).Nodup) (hb : 1 ≤ most → ((atF rev (S s.data.toList)).2.length : Int) ≤ most) :
    Calls Try.prog 12 #[.pointer (some ⟨rb, 0, none⟩), .string s, .int .i64 rev, .string q, .bool y] w
      (RPost w rb most (N + 2) tag (upd S s.data.toList (some (putF most rev q.data.toList y (atF rev (S s.data.toList))))) (.tuple #[])) := by
  have hat := rat_calls h hN s rev
  have hge := at_ge rev (S s.data.toList)
  obtain ⟨x, hx⟩ : ∃ x, atF rev (S s.data.toList) = x := ⟨_, rfl⟩
  rw [hx] at hat hnd hb hge ⊢
  clear hx
  have HAT := Lib.hid hat
  obtain ⟨res, hres⟩ : ∃ res, putF most rev q.data.toList y x = res := ⟨_, rfl⟩
  rw [hres]
  have HRES := Lib.hid hres
  have HND := Lib.hid hnd
  have HB := Lib.hid hb
  clear hat h hres hnd hb
  obtain ⟨i0, hi, hz0, hz1, hz2⟩ := info_parts info_ans
  have HI := Lib.hid hi; clear hi
  have HZ0 := Lib.hid hz0; clear hz0
  have HZ1 := Lib.hid hz1; clear hz1
  have HZ2 := Lib.hid hz2; clear hz2
  go_enter Try.func12, Try.ntmps12
  go_wp2_with fail
  refine HAT.out.mono ?_
  clear HAT
  rintro e w1 ⟨tag1, tv1, names1, pt1, rfl, hR, hT, hmem⟩
  obtain ⟨lv, hp⟩ := hR.parts _ x (upd_same _ _ _)
  have HX := Lib.hid hp
  obtain ⟨p1, p2, p3, p4, p5⟩ := hp
  obtain ⟨la, lc, rfl⟩ := p4.form
  have HMEM := Lib.hid hmem
  have HR := Lib.hid hR
  have HT := Lib.hid hT
  obtain ⟨tb, htb⟩ : ∃ tb, pt1 s.data.toList = tb := ⟨_, rfl⟩
  rw [htb] at p3 ⊢
  have HTB := Lib.hid htb
  clear htb
  have k0 := cells_of hR.hc 0 (.int .i64 most) rfl
  have k1 := cells_of p3 1 (.int .i64 x.1) rfl
  have k2 := cells_of p3 2 (.slice la x.2.length lc) rfl
  have f2 := frz_of p3 2
  have HQ := Lib.hid p4
  obtain ⟨x1, l⟩ := x
  simp only at k1 k2 HQ p5 hge
  clear p1 p2 p3 p4 hR hT hmem
  have key : ∀ w' v' , RPost w1 rb most (N + 2) tag1 (upd (upd S s.data.toList (some (x1, l))) s.data.toList (some res)) (.tuple #[]) v' w' → RPost w rb most (N + 2) tag (upd S s.data.toList (some res)) (.tuple #[]) v' w' := fun w' v' ⟨tag', tv', names', pt', e1, e2, e3⟩ => by
    rw [upd_upd] at e2
    exact ⟨tag', tv', names', pt', e1, e2, HT.out.trans e3⟩
  have KEY := Lib.hid key
  clear key
  by_cases hidle : x1 ≠ rev ∨ most < 1
  · have e : res = (x1, l) := by rw [← HRES.out]; unfold putF; rw [if_pos hidle]
    subst e
    have hpost : RPost w rb most (N + 2) tag (upd S s.data.toList (some (x1, l))) (.tuple #[]) (.returned (.tuple #[])) w1 := ⟨tag1, tv1, names1, pt1, rfl, HR.out.mono (by omega), HT.out⟩
    have HP := Lib.hid hpost
    clear hpost
    by_cases hr : rev < x1
    · go_wp2
      exact bodyPost_ret (results_none rfl _ _ _) rfl HP.out
    · have hm : most < 1 := by
        rcases hidle with hc | hc
        · omega
        · exact hc
      clear hidle
      go_wp2
      exact bodyPost_ret (results_none rfl _ _ _) rfl HP.out
  · have h1 : x1 = rev := Decidable.byContradiction fun hc => hidle (.inl hc)
    have h2 : ¬ most < 1 := fun hc => hidle (.inr hc)
    subst h1
    have hlen := HB.out (by omega)
    simp only at hlen
    have HID := Lib.hid hidle
    clear hidle hge
    go_wp2
    go_loop [11] (fun v11 => ∃ i : Nat, i ≤ l.length ∧ v11 = .int .i64 (i : Int) ∧ (l.take i).lookup q.data.toList = none) (fun v11 => l.length - (intOf v11).toNat)
    case atStart => exact ⟨0, Nat.zero_le _, rfl, by simp⟩
    case round =>
      obtain ⟨i, hi, rfl, hno⟩ := hrel
      by_cases hlt : i < l.length
      · obtain ⟨p, hp⟩ : ∃ p, l[i]? = some p := ⟨l[i], List.getElem?_eq_getElem hlt⟩
        obtain ⟨e1, e2⟩ := cellsL_get l i p hp
        obtain ⟨g, off, rfl, c1', c2, cf⟩ := HQ.out.get2 hlt e1 e2
        have c1 : w1.cell? ⟨g, off + i * 2, none⟩ = some (.string ⟨p.1.toArray⟩) := c1'
        have i0 : (0 : Int) ≤ (i : Int) := by omega
        have i1 : (i : Int) < (l.length : Int) := by omega
        clear e1 e2 c1'
        by_cases he : p.1 = q.data.toList
        · have t1 := vs_eq he
          have e : res = (x1, repl q.data.toList y l) := by
            rw [← HRES.out]; unfold putF; rw [if_neg HID.out, if_pos (by rw [lookup_at hno hp he]; rfl)]
          subst e
          have hpost := KEY.out _ _ ((rput_had HR.out HMEM.out HX.out hp he HND.out (y := y)).mono (by omega))
          have HP := Lib.hid hpost
          clear hpost hno hp he
          go_wp2
          exact bodyPost_ret (results_none rfl _ _ _) rfl HP.out
        · have t1 := vs_neq he
          have hno2 := lookup_step hno hp he
          clear hno hp he
          go_wp2
          exact ⟨⟨i + 1, by omega, by go_num, hno2⟩, by simp [intOf]; omega⟩
      · rw [List.take_of_length_le (by omega)] at hno
        have hr : (x1, if ((l ++ [(q.data.toList, y)]).length : Int) > most then (l ++ [(q.data.toList, y)]).drop 1 else l ++ [(q.data.toList, y)]) = res := by
          have hh : ¬ (l.lookup q.data.toList).isSome = true := by rw [hno]; simp
          rw [← HRES.out]; unfold putF; rw [if_neg HID.out, if_neg hh]
        have HRS := Lib.hid hr
        have HQ2 := Lib.hid (HQ.out.kept (w' := w1.alloc (.cells #[.string q, .bool y] 55)) fun g hg => alloc_old _ (HQ.out.block_lt hg))
        clear hr hno
        go_wp2_with (at_builtin; go_loud (refine wpList_append_q rfl _ _ 51 rfl 55 i0 (.agg #[.string ByteArray.empty, .bool false]) 2 24 Try.underlying51 HI.out HZ0.out HZ1.out HZ2.out rfl (by decide) _ l.length _ rfl HQ2.out ⟨w1.heap.size, 0, none⟩ 1 1 [.string q, .bool y] rfl rfl ?c1 ?c2 (by unfold maxLen; omega) (by omega) ?_))
        case c2 => exact ⟨rfl, rfl⟩
        intro v' w2 hq2 hg2 hblk
        have hX : PartR w1 (N + 1) tag1 s.data.toList (pt1 s.data.toList) (x1, l) (.slice la l.length lc) := HX.out
        have hrb := (Array.getElem?_eq_some_iff.1 HR.out.hc).1
        have htp := hX.1
        have hcp : rb ≠ tb := fun e => by have := HR.out.tc; rw [e, ← HTB.out, htp] at this; cases this
        have hcl : ∀ g, (Value.slice la l.length lc).ownBlock = some g → rb ≠ g ∧ tb ≠ g := fun g hg => by
          have h0 := hX.2.1 g hg
          refine ⟨fun e => ?_, fun e => ?_⟩
          · have := HR.out.tc; rw [e, h0] at this; cases this
          · rw [HTB.out] at htp; rw [← e, htp] at h0; cases h0
        have htb := (Array.getElem?_eq_some_iff.1 hX.2.2.1).1
        have hp2 : w2.heap[tb]? = some (.cells #[vs s.data.toList, .int .i64 x1, .slice la l.length lc] 53 (0, 0)) := by
          have h0 := hX.2.2.1
          rw [HTB.out] at h0 htb
          rw [hg2.block tb (by simp; omega) (fun e => (hcl tb e.symm).2 rfl), alloc_old _ htb]; exact h0
        have hr2 : w2.heap[rb]? = some (.cells #[.int .i64 most, tv1] 29 (0, 0)) := by
          rw [hg2.block rb (by simp; omega) (fun e => (hcl rb e.symm).1 rfl), alloc_old _ hrb]; exact HR.out.hc
        obtain ⟨tag3, hR3, hT3, hX3⟩ := rput_new HR.out HMEM.out hX hq2 hg2 (by simpa using hblk)
        rw [HTB.out] at hR3 hT3 hX3
        rw [upd_upd] at hR3
        have m2 := cells_of hp2 2 (.slice la l.length lc) rfl
        have mf := frz_of hp2 2
        rcases hq2.2 with ⟨_, h0⟩ | ⟨g, off, cap, cur, rfl, _, hcap, _⟩
        · omega
        have j0 : (w2.setCell ⟨tb, 2, none⟩ (.slice (some ⟨g, off, none⟩) (l.length + 1) cap)).cell? ⟨rb, 0, none⟩ = some (.int .i64 most) := by
          rw [World.cell?_setCell_other _ _ _ _ (fun e => by injection e with e1; exact hcp e1.symm)]; exact cells_of hr2 0 _ rfl
        have R3 := Lib.hid hR3
        have T3 := Lib.hid hT3
        have X3 := Lib.hid hX3
        clear hp2 hr2 hR3 hT3 hX3 hq2 hg2 hblk hX htp hcl HQ HQ2 k0 k1 k2 f2
        by_cases hgt : most < (l.length : Int) + 1
        · obtain ⟨p, t, hpt⟩ : ∃ p t, l ++ [(q.data.toList, y)] = p :: t := by
            cases l with
            | nil => exact ⟨_, _, rfl⟩
            | cons a l => exact ⟨_, _, rfl⟩
          have ht : t.length = l.length := by have := congrArg List.length hpt; simp at this; omega
          have e : res = (x1, t) := by
            rw [← HRS.out, if_pos (by simp; omega), hpt]; rfl
          subst e
          have hR3 := R3.out
          have hX3 := X3.out
          rw [hpt] at hR3 hX3
          rw [← ht] at hX3 hR3
          have HTL := Lib.hid ht
          have hl1 : 1 ≤ l.length := by omega
          have XX := Lib.hid hX3
          have RR := Lib.hid hR3
          clear hR3 hX3 R3 X3 hpt ht HRS
          go_wp2
          go_quiet (fail)
          go_wp2
          have e0 := HTB.out
          subst e0
          have hRd := RR.out.kept (w' := (w2.setCell ⟨pt1 s.data.toList, 2, none⟩ (.slice (some ⟨g, off, none⟩) (t.length + 1) cap)).drewN nq) (fun _ _ => rfl) (Nat.le_refl _)
          have hXd := XX.out.kept (w' := (w2.setCell ⟨pt1 s.data.toList, 2, none⟩ (.slice (some ⟨g, off, none⟩) (t.length + 1) cap)).drewN nq) (N' := N + 1 + 1) (tag' := tag3) (fun _ _ => ⟨rfl, rfl⟩) (Nat.le_refl _)
          obtain ⟨tag5, tv5, names5, pt5, z1, z2, z3⟩ := rput_trim hRd HMEM.out hXd
          rw [upd_upd] at z2
          have t4 : TStep w1 tag1 ((w2.setCell ⟨pt1 s.data.toList, 2, none⟩ (.slice (some ⟨g, off, none⟩) (t.length + 1) cap)).drewN nq) tag3 := by
            have := T3.out
            rw [← HTL.out] at this
            exact ⟨this.1.drew _, this.2⟩
          have hP : RPost w rb most (N + 2) tag (upd S s.data.toList (some (x1, t))) (.tuple #[]) (.returned (.tuple #[])) _ := ⟨tag5, tv5, names5, pt5, rfl, z2, HT.out.trans (t4.trans z3)⟩
          rw [HTL.out] at hP
          exact bodyPost_end (results_none rfl _ _ _) rfl hP
        · have e : res = (x1, l ++ [(q.data.toList, y)]) := by
            rw [← HRS.out, if_neg (by simp; omega)]
          subst e
          have hpost : RPost w rb most (N + 2) tag (upd S s.data.toList (some (x1, l ++ [(q.data.toList, y)]))) (.tuple #[]) (.returned (.tuple #[])) (w2.setCell ⟨tb, 2, none⟩ (.slice (some ⟨g, off, none⟩) (l.length + 1) cap)) := ⟨tag3, _, _, _, rfl, R3.out, HT.out.trans T3.out⟩
          have HP := Lib.hid hpost
          clear hpost HRS R3 X3
          go_wp2
          go_quiet (fail)
          go_wp2
          exact bodyPost_end (results_none rfl _ _ _) rfl (HP.out.drew _)
end Go.Proofs.Ytfmekhebdpjdkaa.C

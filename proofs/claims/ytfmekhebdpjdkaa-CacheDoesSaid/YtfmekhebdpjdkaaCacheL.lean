/-
  The law CacheDoes, walked.
-/
import Derived.Test.YtfmekhebdpjdkaaCacheU
import Derived.Test.YtfmekhebdpjdkaaCacheT
namespace Go.Proofs.Ytfmekhebdpjdkaa.C
open Go.RowKit Go.Proofs.Ytfmekhebdpjdkaa.B
set_option linter.unusedVariables false
set_option linter.unusedSimpArgs false

structure TwoR (w0 w : World) (most : Int) (N cb : Nat) (tc : Nat → Option Tag) (mc : Nat) (pc : Nm → Option Nat) (rb : Nat) (tr : Nat → Option Tag) (tv : Value) (names : List Nm) (pt : Nm → Nat) (S : Nm → Option Tn) : Prop where
  c : Rep w cb most N tc mc pc S
  r : RepR w rb most N tr tv names pt S
  mc : Mine w0 w tc
  mr : Mine w0 w tr
  dis : ∀ b, tc b ≠ none → tr b = none
  b : Bd most S
theorem TwoR.below {w0 w w' : World} {most : Int} {N cb : Nat} {tc : Nat → Option Tag} {mc : Nat} {pc : Nm → Option Nat} {rb : Nat} {tr : Nat → Option Tag} {tv : Value} {names : List Nm} {pt : Nm → Nat} {S : Nm → Option Tn}
    (h : TwoR w0 w most N cb tc mc pc rb tr tv names pt S) (hb : Below w.heap.size w w') : TwoR w0 w' most N cb tc mc pc rb tr tv names pt S := ⟨h.c.below hb, h.r.below hb, h.mc.below' hb, h.mr.below' hb, h.dis, h.b⟩
theorem TwoR.mono {w0 w : World} {most : Int} {N N' cb : Nat} {tc : Nat → Option Tag} {mc : Nat} {pc : Nm → Option Nat} {rb : Nat} {tr : Nat → Option Tag} {tv : Value} {names : List Nm} {pt : Nm → Nat} {S : Nm → Option Tn}
    (h : TwoR w0 w most N cb tc mc pc rb tr tv names pt S) (hN : N ≤ N') : TwoR w0 w most N' cb tc mc pc rb tr tv names pt S := ⟨h.c.mono hN, h.r.mono hN, h.mc, h.mr, h.dis, h.b⟩
theorem TwoR.drew {w0 w : World} {most : Int} {N cb : Nat} {tc : Nat → Option Tag} {mc : Nat} {pc : Nm → Option Nat} {rb : Nat} {tr : Nat → Option Tag} {tv : Value} {names : List Nm} {pt : Nm → Nat} {S : Nm → Option Tn}
    (h : TwoR w0 w most N cb tc mc pc rb tr tv names pt S) (n : Nat) : TwoR w0 (w.drewN n) most N cb tc mc pc rb tr tv names pt S := h.below ⟨rfl, rfl, rfl, Nat.le_refl _, fun _ _ => rfl⟩
/-- a call on the one, then the same on the other. -/
theorem dis_step {w w' : World} {t t' u : Nat → Option Tag} (hd : ∀ b, t b ≠ none → u b = none) (hu : ∀ b, u b ≠ none → b < w.heap.size) (hT : TStep w t w' t') : ∀ b, t' b ≠ none → u b = none := fun b hb => by
  by_cases hlt : b < w.heap.size
  · exact hd b (by rw [← hT.2 b hlt]; exact hb)
  · cases h : u b with
    | none => rfl
    | some x => exact absurd (hu b (by rw [h]; simp)) hlt
theorem dis_swap {t u : Nat → Option Tag} (hd : ∀ b, t b ≠ none → u b = none) : ∀ b, u b ≠ none → t b = none := fun b hb => by
  cases h : t b with
  | none => rfl
  | some x => exact absurd (hd b (by rw [h]; simp)) hb
theorem call_c {w0 w w' : World} {most : Int} {N N' cb : Nat} {tc : Nat → Option Tag} {mc : Nat} {pc : Nm → Option Nat} {rb : Nat} {tr : Nat → Option Tag} {tv : Value} {names : List Nm} {pt : Nm → Nat} {S S' : Nm → Option Tn} {v : Value} {e : Ending} {ob : Nat} {o : OpV}
    (h : TwoR w0 w most N cb tc mc pc rb tr tv names pt S) (ho : OB w tc tr ob o) (hp : CPost w cb most N' tc mc S' v e w') :
    e = .returned v ∧ ∃ tc' pc', Rep w' cb most N' tc' mc pc' S' ∧ RepR w' rb most N tr tv names pt S ∧ Mine w0 w' tc' ∧ Mine w0 w' tr ∧ (∀ b, tc' b ≠ none → tr b = none) ∧ OB w' tc' tr ob o := by
  obtain ⟨tc', pc', he, hR, hT⟩ := hp
  exact ⟨he, tc', pc', hR, h.r.kept (fun b hb => hT.1.block b (h.r.lt b hb) (fun hf => hb (h.dis b hf))) hT.1.size, h.mc.step hT, ⟨(h.mc.step hT).below, h.mr.new⟩, dis_step h.dis h.r.lt hT, ho.step hT⟩
theorem call_r {w0 w w' : World} {most : Int} {N N' N2 cb : Nat} {tc : Nat → Option Tag} {mc : Nat} {pc : Nm → Option Nat} {rb : Nat} {tr : Nat → Option Tag} {tv : Value} {names : List Nm} {pt : Nm → Nat} {S S' : Nm → Option Tn} {v : Value} {e : Ending} {ob : Nat} {o : OpV}
    (h1 : Rep w cb most N' tc mc pc S') (h2 : RepR w rb most N tr tv names pt S) (m1 : Mine w0 w tc) (m2 : Mine w0 w tr) (hd : ∀ b, tc b ≠ none → tr b = none) (hB : Bd most S') (ho : OB w tc tr ob o) (hN : N' ≤ N2) (hp : RPost w rb most N2 tr S' v e w') :
    e = .returned v ∧ ∃ tr' tv' names' pt', TwoR w0 w' most N2 cb tc mc pc rb tr' tv' names' pt' S' ∧ OB w' tc tr' ob o := by
  obtain ⟨tr', tv', names', pt', he, hR, hT⟩ := hp
  have hd' := dis_swap hd
  refine ⟨he, tr', tv', names', pt', ⟨(h1.kept (fun b hb => hT.1.block b (h1.lt b hb) (fun hf => hb (hd' b hf))) hT.1.size).mono hN, hR, ⟨(m2.step hT).below, m1.new⟩, m2.step hT, dis_swap (dis_step hd' h1.lt hT), hB⟩, (ho.swap.step hT).swap⟩
theorem refnew {w0 w : World} {most : Int} {cb : Nat} {tc : Nat → Option Tag} {mc : Nat} {pc : Nm → Option Nat} (h : Rep w cb most 0 tc mc pc (fun _ => none)) (hm : Mine w0 w tc) :
    TwoR w0 (w.alloc (.cells #[.int .i64 most, .slice none 0 0] 29)) most 0 cb tc mc pc w.heap.size (fun b => if b = w.heap.size then some .top else none) (.slice none 0 0) [] (fun _ => 0) (fun _ => none) := by
  have hb : Below w.heap.size w (w.alloc (.cells #[.int .i64 most, .slice none 0 0] 29)) := (Below.refl _ _).alloc (Nat.le_refl _) _
  refine ⟨h.below hb, ⟨by simp, heap_alloc_new w _, (by intro g hg; cases hg), QRow.nil _ _ _, Nat.le_refl _, List.nodup_nil, ?_, fun nm => by simp, fun nm t ht => by cases ht⟩, hm.below' hb, ⟨keepB hm.below hb, ?_⟩, ?_, Bd.empty _⟩
  · intro b hb
    split at hb
    · simp; omega
    · exact absurd rfl hb
  · intro b hb
    split at hb
    · have := hm.below.size; omega
    · exact absurd rfl hb
  · intro b hb
    have := h.lt b hb
    rw [if_neg (by omega)]
set_option maxRecDepth 100000 in
set_option maxHeartbeats 4000000 in
theorem CacheDoes_calls (most : Int) (A : Option Addr) (n c : Nat) (L : List OpV) (w : World) (hr : ORead w A n L) :
    Calls Try.prog 3 #[.int .i64 most, .slice A n c] w (TruePost w) := by
  have HR := Lib.hid hr; clear hr
  go_enter Try.func3, Try.ntmps3
  go_wp2_with fail
  refine (awake_calls w).mono ?_
  rintro e w1 ⟨rfl, hb1⟩
  go_wp2_with fail
  refine (New_calls w1 most).mono ?_
  rintro e w2 ⟨cb, tc, mc, pc, rfl, hRc, hbc, hnc⟩
  have hb2 := keepB hb1 hbc
  have h2 := refnew hRc (⟨hb2, fun b hb => Nat.le_trans hb1.size (hnc b hb)⟩ : Mine w w2 tc)
  have H2 := Lib.hid h2
  clear h2 hRc hbc hnc hb1
  by_cases hn : (n : Int) > 200
  · go_wp2
    go_ret
    exact ⟨rfl, hb2⟩
  · go_wp2
    clear hb2
    go_loopw [8] (fun v8 wr => ∃ (k : Nat) (tc : Nat → Option Tag) (pc : Nm → Option Nat) (tr : Nat → Option Tag) (tv : Value) (names : List Nm) (pt : Nm → Nat) (S : Nm → Option Tn), k ≤ n ∧ v8 = .int .i64 k ∧ TwoR w wr most (4 * k) cb tc mc pc w2.heap.size tr tv names pt S) (fun v8 _ => n - (intOf v8).toNat)
    case atStart => exact ⟨0, _, _, _, _, _, _, _, Nat.zero_le _, rfl, H2.out⟩
    case round =>
      clear H2
      obtain ⟨k, tc, pc, tr, tv, names, pt, S, hk, rfl, h2⟩ := hrel
      have H2 := Lib.hid h2
      clear h2
      by_cases hkn : k < n
      · obtain ⟨a, b, o, rfl, hb, ho, s1, s3, hC, hCs⟩ := HR.out.get hkn
        obtain ⟨d0, d1, d2, d3, d4⟩ := hCs wr H2.out.mc.below
        clear hC hCs ho
        obtain ⟨ok, ot, orv, oq, oy⟩ := o
        simp only at s1 s3 d0 d1 d2 d3 d4
        have hob : OB (wr.alloc (.cells #[.int .i64 ok, .string ot, .int .i64 orv, .string oq, .bool oy] 31)) tc tr wr.heap.size ⟨ok, ot, orv, oq, oy⟩ :=
          ⟨Decidable.byContradiction fun h => by have := H2.out.c.lt _ h; omega, Decidable.byContradiction fun h => by have := H2.out.r.lt _ h; omega, heap_alloc_new wr _⟩
        have H3 := Lib.hid (H2.out.below (w' := wr.alloc (.cells #[.int .i64 ok, .string ot, .int .i64 orv, .string oq, .bool oy] 31)) ((Below.refl _ _).alloc (Nat.le_refl _) _))
        have HOB := Lib.hid hob
        clear H2 hob
        by_cases k0 : ok = 0
        · subst k0
          go_wp2_with fail
          refine (Get_calls H3.out.c (by omega) ot s1 orv oq s3).mono ?_
          intro e w4 hp
          obtain ⟨rfl, tc4, pc4, h4, hr4, m4, n4, dis4, ho4⟩ := call_c H3.out HOB.out hp
          obtain ⟨g0, g1, g2, g3, g4⟩ := ho4.cells
          have H4 := Lib.hid h4
          have R4 := Lib.hid hr4
          have HO4 := Lib.hid ho4
          have HB4 := Lib.hid (H3.out.b.upd ot.data.toList (t := some (atF orv (S ot.data.toList))) (fun x hx => by cases hx; exact atTB H3.out.b _ _))
          clear hp HOB H3 d0 d1 d2 d3 d4 h4 hr4 ho4
          obtain ⟨ga, hga⟩ : ∃ ga, getF orv oq.data.toList (atF orv (S ot.data.toList)) = ga := ⟨_, rfl⟩
          have HGA := Lib.hid hga
          rw [hga]
          clear hga
          go_wp2_with fail
          refine (RGet_calls R4.out (by omega) ot orv oq).mono ?_
          intro e w5 hp
          obtain ⟨rfl, tr5, tv5, names5, pt5, h5, ho5⟩ := call_r H4.out R4.out m4 n4 dis4 HB4.out HO4.out (by omega) hp
          rw [HGA.out]
          clear hp H4 R4 HO4 HB4 HGA m4 n4 dis4 g0 g1 g2 g3 g4
          obtain ⟨ga1, ga2⟩ := ga
          have T9 := Lib.hid h5
          obtain ⟨g0, g1, g2, g3, g4⟩ := ho5.cells
          have hlc := fun nq => Len_calls (T9.out.drew nq).c ot s1
          have hlr := fun nq => RLen_calls (T9.out.drew nq).r (by omega) ot
          obtain ⟨z, hz⟩ : ∃ z, lenF (_ : Option Tn) = z := ⟨lenF ((upd S ot.data.toList (some (atF orv (S ot.data.toList)))) ot.data.toList), rfl⟩
          rw [hz] at hlc hlr
          have HLC := Lib.hid hlc
          have HLR := Lib.hid hlr
          clear hlc hlr hz h5 ho5
          go_wp2
          go_quiet (first | (go_at_call 15; exact Calls.quiet_of_same (HLC.out _)) | (go_at_call 16; exact Calls.quiet_of_same (HLR.out _)))
          go_wp2
          exact ⟨⟨k + 1, _, _, _, _, _, _, _, by omega, by go_num, (T9.out.drew _).mono (by omega)⟩, by simp [intOf]; omega⟩
        · have k0b : (ok == 0) = false := by simpa using k0
          by_cases k1 : ok = 1
          · subst k1
            go_wp2_with fail
            refine (Put_calls H3.out.c (by omega) ot s1 orv oq s3 oy (fun h1 => (atTB H3.out.b orv _).1 h1)).mono ?_
            intro e w4 hp
            obtain ⟨rfl, tc4, pc4, h4, hr4, m4, n4, dis4, ho4⟩ := call_c H3.out HOB.out hp
            obtain ⟨g0, g1, g2, g3, g4⟩ := ho4.cells
            have H4 := Lib.hid h4
            have R4 := Lib.hid hr4
            have HO4 := Lib.hid ho4
            have HB3 := Lib.hid H3.out.b
            have HN3 := Lib.hid (at_nodup H3.out.c.nds orv ot.data.toList)
            have HB4 := Lib.hid (H3.out.b.upd ot.data.toList (t := some (putF most orv oq.data.toList oy (atF orv (S ot.data.toList)))) (fun x hx => by cases hx; exact putTB (atTB H3.out.b _ _)))
            clear hp HOB H3 d0 d1 d2 d3 d4 h4 hr4 ho4
            go_wp2_with fail
            refine (RPut_calls R4.out (by omega) ot orv oq oy HN3.out (fun h1 => (atTB HB3.out orv _).1 h1)).mono ?_
            intro e w5 hp
            obtain ⟨rfl, tr5, tv5, names5, pt5, h5, ho5⟩ := call_r H4.out R4.out m4 n4 dis4 HB4.out HO4.out (by omega) hp
            clear hp H4 R4 HO4 HB4 HB3 HN3 m4 n4 dis4 g0 g1 g2 g3 g4
            have T9 := Lib.hid h5
            obtain ⟨g0, g1, g2, g3, g4⟩ := ho5.cells
            have hlc := fun nq => Len_calls (T9.out.drew nq).c ot s1
            have hlr := fun nq => RLen_calls (T9.out.drew nq).r (by omega) ot
            obtain ⟨z, hz⟩ : ∃ z, lenF (_ : Option Tn) = z := ⟨lenF ((upd S ot.data.toList (some (putF most orv oq.data.toList oy (atF orv (S ot.data.toList))))) ot.data.toList), rfl⟩
            rw [hz] at hlc hlr
            have HLC := Lib.hid hlc
            have HLR := Lib.hid hlr
            clear hlc hlr hz h5 ho5
            go_wp2
            go_quiet (first | (go_at_call 15; exact Calls.quiet_of_same (HLC.out _)) | (go_at_call 16; exact Calls.quiet_of_same (HLR.out _)))
            go_wp2
            exact ⟨⟨k + 1, _, _, _, _, _, _, _, by omega, by go_num, (T9.out.drew _).mono (by omega)⟩, by simp [intOf]; omega⟩
          · have k1b : (ok == 1) = false := by simpa using k1
            by_cases k2 : ok = 2
            · subst k2
              go_wp2_with fail
              refine (Drop_calls H3.out.c ot s1).mono ?_
              intro e w4 hp
              obtain ⟨rfl, tc4, pc4, h4, hr4, m4, n4, dis4, ho4⟩ := call_c H3.out HOB.out hp
              obtain ⟨g0, g1, g2, g3, g4⟩ := ho4.cells
              have H4 := Lib.hid h4
              have R4 := Lib.hid hr4
              have HO4 := Lib.hid ho4
              have HB4 := Lib.hid (H3.out.b.upd ot.data.toList (t := none) (fun x hx => by cases hx))
              clear hp HOB H3 d0 d1 d2 d3 d4 h4 hr4 ho4
              go_wp2_with fail
              refine (RDrop_calls R4.out (by omega) ot).mono ?_
              intro e w5 hp
              obtain ⟨rfl, tr5, tv5, names5, pt5, h5, ho5⟩ := call_r H4.out R4.out m4 n4 dis4 HB4.out HO4.out (Nat.le_refl _) hp
              clear hp H4 R4 HO4 HB4 m4 n4 dis4 g0 g1 g2 g3 g4
              have T9 := Lib.hid h5
              obtain ⟨g0, g1, g2, g3, g4⟩ := ho5.cells
              have hlc := fun nq => Len_calls (T9.out.drew nq).c ot s1
              have hlr := fun nq => RLen_calls (T9.out.drew nq).r (by omega) ot
              obtain ⟨z, hz⟩ : ∃ z, lenF (_ : Option Tn) = z := ⟨lenF ((upd S ot.data.toList none) ot.data.toList), rfl⟩
              rw [hz] at hlc hlr
              have HLC := Lib.hid hlc
              have HLR := Lib.hid hlr
              clear hlc hlr hz h5 ho5
              go_wp2
              go_quiet (first | (go_at_call 15; exact Calls.quiet_of_same (HLC.out _)) | (go_at_call 16; exact Calls.quiet_of_same (HLR.out _)))
              go_wp2
              exact ⟨⟨k + 1, _, _, _, _, _, _, _, by omega, by go_num, (T9.out.drew _).mono (by omega)⟩, by simp [intOf]; omega⟩
            · have k2b : (ok == 2) = false := by simpa using k2
              have h5 := H3.out
              have ho5 := HOB.out
              clear H3 HOB
              have T9 := Lib.hid h5
              obtain ⟨g0, g1, g2, g3, g4⟩ := ho5.cells
              have hlc := fun nq => Len_calls (T9.out.drew nq).c ot s1
              have hlr := fun nq => RLen_calls (T9.out.drew nq).r (by omega) ot
              obtain ⟨z, hz⟩ : ∃ z, lenF (_ : Option Tn) = z := ⟨lenF (S ot.data.toList), rfl⟩
              rw [hz] at hlc hlr
              have HLC := Lib.hid hlc
              have HLR := Lib.hid hlr
              clear hlc hlr hz h5 ho5
              go_wp2
              go_quiet (first | (go_at_call 15; exact Calls.quiet_of_same (HLC.out _)) | (go_at_call 16; exact Calls.quiet_of_same (HLR.out _)))
              go_wp2
              exact ⟨⟨k + 1, _, _, _, _, _, _, _, by omega, by go_num, (T9.out.drew _).mono (by omega)⟩, by simp [intOf]; omega⟩
      · have hb := H2.out.mc.below
        clear H2
        go_wp2
        go_ret
        exact ⟨rfl, hb⟩
end Go.Proofs.Ytfmekhebdpjdkaa.C

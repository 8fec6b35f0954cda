/-
  The law CacheTrue, walked.
-/
import Derived.Test.YtfmekhebdpjdkaaCacheT
import Derived.Test.YtfmekhebdpjdkaaCacheJ
namespace Go.Proofs.Ytfmekhebdpjdkaa.C
open Go.RowKit Go.Proofs.Ytfmekhebdpjdkaa.B
set_option linter.unusedVariables false
set_option linter.unusedSimpArgs false

structure TS (w0 w : World) (most : Int) (N cb : Nat) (tag : Nat → Option Tag) (mb : Nat) (pm : Nm → Option Nat) (S : Nm → Option Tn) (P : List OpV) : Prop where
  r : Rep w cb most N tag mb pm S
  b : Bd most S
  m : Mine w0 w tag
  h : Hist S P
theorem TS.below {w0 w w' : World} {most : Int} {N cb : Nat} {tag : Nat → Option Tag} {mb : Nat} {pm : Nm → Option Nat} {S : Nm → Option Tn} {P : List OpV} (h : TS w0 w most N cb tag mb pm S P) (hb : Below w.heap.size w w') : TS w0 w' most N cb tag mb pm S P := ⟨h.r.below hb, h.b, h.m.below' hb, h.h⟩
theorem TS.mono {w0 w : World} {most : Int} {N N' cb : Nat} {tag : Nat → Option Tag} {mb : Nat} {pm : Nm → Option Nat} {S : Nm → Option Tn} {P : List OpV} (h : TS w0 w most N cb tag mb pm S P) (hN : N ≤ N') : TS w0 w most N' cb tag mb pm S P := ⟨h.r.mono hN, h.b, h.m, h.h⟩
theorem TS.post {w0 w w' : World} {most : Int} {N N' cb : Nat} {tag : Nat → Option Tag} {mb : Nat} {pm : Nm → Option Nat} {S S' : Nm → Option Tn} {P P' : List OpV} {v : Value} {e : Ending} {ob : Nat} {o : OpV} (h : TS w0 w most N cb tag mb pm S P) (ho : OB w tag (fun _ => none) ob o)
    (hp : CPost w cb most N' tag mb S' v e w') (hb : Bd most S') (hh : Hist S' P') : e = .returned v ∧ ∃ tag' pm', TS w0 w' most N' cb tag' mb pm' S' P' ∧ OB w' tag' (fun _ => none) ob o := by
  obtain ⟨tag', pm', he, hR, hT⟩ := hp
  exact ⟨he, tag', pm', ⟨hR, hb, h.m.step hT, hh⟩, ho.step hT⟩
theorem neq_ba {s t : ByteArray} (h : s.data.toList ≠ t.data.toList) : (s.toList == t.toList) = false ∧ (s.toList != t.toList) = true := by
  have := ba_ne2 (fun e => h (by rw [e]) : s ≠ t)
  exact ⟨this, by rw [bne, this]; rfl⟩
theorem eq_ba {s t : ByteArray} (h : s.data.toList = t.data.toList) : (s.toList == t.toList) = true ∧ (s.toList != t.toList) = false := by
  rw [ba_ext h]; simp
set_option maxRecDepth 100000 in
set_option maxHeartbeats 4000000 in
theorem CacheTrue_calls (most : Int) (A : Option Addr) (n c : Nat) (L : List OpV) (w : World) (hr : ORead w A n L) :
    Calls Try.prog 5 #[.int .i64 most, .slice A n c] w (TruePost w) := by
  have HR := Lib.hid hr; clear hr
  go_enter Try.func5, Try.ntmps5
  go_wp2_with fail
  refine (awake_calls w).mono ?_
  rintro e w1 ⟨rfl, hb1⟩
  go_wp2_with fail
  refine (New_calls w1 most).mono ?_
  rintro e w2 ⟨cb, tag, mb, pm, rfl, hR, hb, hn⟩
  have hb2 := keepB hb1 hb
  have hTS : TS w w2 most 0 cb tag mb pm (fun _ => none) [] := ⟨hR, Bd.empty _, ⟨hb2, fun b hb => Nat.le_trans hb1.size (hn b hb)⟩, fun t rv l q y h => by cases h⟩
  have HT := Lib.hid hTS
  clear hR hTS hb hn
  by_cases hn : (n : Int) > 200
  · go_wp2
    go_ret
    exact ⟨rfl, hb2⟩
  · go_wp2
    clear hb1 hb2
    go_loopw [7] (fun v7 wr => ∃ (k : Nat) (S : Nm → Option Tn) (tag : Nat → Option Tag) (pm : Nm → Option Nat), k ≤ n ∧ v7 = .int .i64 k ∧ TS w wr most (3 * k) cb tag mb pm S (L.take k).reverse) (fun v7 _ => n - (intOf v7).toNat)
    case atStart => exact ⟨0, _, tag, pm, Nat.zero_le _, rfl, HT.out⟩
    case round =>
      clear HT
      obtain ⟨k, S, tag, pm, hk, rfl, hTS⟩ := hrel
      have HT := Lib.hid hTS
      clear hTS
      by_cases hkn : k < n
      · obtain ⟨a, b, o, rfl, hb, ho, s1, s3, hC, hCs⟩ := HR.out.get hkn
        obtain ⟨d0, d1, d2, d3, d4⟩ := hCs wr HT.out.m.below
        have HTK := Lib.hid (take_rev (by rw [HR.out.1]; exact hkn) ho)
        clear hC hCs ho
        have hob : OB (wr.alloc (.cells #[.int .i64 o.kind, .string o.tenant, .int .i64 o.rev, .string o.question, .bool o.yes] 31)) tag (fun _ => none) wr.heap.size o :=
          ⟨Decidable.byContradiction fun h => by have := HT.out.r.lt _ h; omega, rfl, heap_alloc_new wr _⟩
        have H3 := Lib.hid (HT.out.below (w' := wr.alloc (.cells #[.int .i64 o.kind, .string o.tenant, .int .i64 o.rev, .string o.question, .bool o.yes] 31)) ((Below.refl _ _).alloc (Nat.le_refl _) _))
        have HOB := Lib.hid hob
        clear HT hob
        have hend : ∀ (wz : World) (S' : Nm → Option Tn) (tag' : Nat → Option Tag) (pm' : Nm → Option Nat) (N' : Nat), TS w wz most N' cb tag' mb pm' S' (o :: (L.take k).reverse) → N' ≤ 3 * k + 3 →
            (∃ (k' : Nat) (S : Nm → Option Tn) (tag : Nat → Option Tag) (pm : Nm → Option Nat), k' ≤ n ∧ Value.int .i64 ((k : Int) + 1) = .int .i64 k' ∧ TS w wz most (3 * k') cb tag mb pm S (L.take k').reverse) ∧ n - (intOf (.int .i64 ((k : Int) + 1))).toNat < n - (intOf (.int .i64 (k : Int))).toNat := fun wz S' tag' pm' N' h hN =>
          ⟨⟨k + 1, S', tag', pm', by omega, by go_num, by rw [HTK.out]; exact h.mono (by omega)⟩, by simp [intOf]; omega⟩
        have HEND := Lib.hid hend
        clear hend
        obtain ⟨ok, ot, orv, oq, oy⟩ := o
        simp only at s1 s3 d0 d1 d2 d3 d4 H3 HOB
        by_cases k1 : ok = 1
        · subst k1
          go_wp2_with fail
          refine (Put_calls H3.out.r (by omega) ot s1 orv oq s3 oy (fun h1 => (atTB H3.out.b orv _).1 h1)).mono ?_
          intro e w4 hp
          obtain ⟨rfl, tag4, pm4, h4, ho4⟩ := H3.out.post HOB.out hp (H3.out.b.upd _ (fun x hx => by cases hx; exact putTB (atTB H3.out.b _ _))) (hist_put (o := ⟨1, ot, orv, oq, oy⟩) H3.out.h H3.out.b H3.out.r.nds rfl)
          have H4 := Lib.hid h4
          clear h4 ho4 hp HOB H3 d0 d1 d2 d3 d4
          go_wp2
          exact HEND.out _ _ _ _ _ H4.out (by omega)
        · have k1b : (ok == 1) = false := by simpa using k1
          by_cases k2 : ok = 2
          · subst k2
            go_wp2_with fail
            refine (Drop_calls H3.out.r ot s1).mono ?_
            intro e w4 hp
            obtain ⟨rfl, tag4, pm4, h4, ho4⟩ := H3.out.post HOB.out hp (H3.out.b.upd _ (fun x hx => by cases hx)) (hist_drop (o := ⟨2, ot, orv, oq, oy⟩) H3.out.h)
            have H4 := Lib.hid h4
            clear h4 ho4 hp HOB H3 d0 d1 d2 d3 d4
            go_wp2
            exact HEND.out _ _ _ _ _ H4.out (by omega)
          · have k2b : (ok == 2) = false := by simpa using k2
            by_cases k0 : ok = 0
            · subst k0
              go_wp2_with fail
              refine (Get_calls H3.out.r (by omega) ot s1 orv oq s3).mono ?_
              intro e w4 hp
              obtain ⟨rfl, tag4, pm4, h4, ho4⟩ := H3.out.post HOB.out hp (H3.out.b.upd _ (fun x hx => by cases hx; exact atTB H3.out.b _ _)) (hist_get (o := ⟨0, ot, orv, oq, oy⟩) H3.out.h rfl)
              have hsc : ∀ y, getF orv oq.data.toList (atF orv (S ot.data.toList)) = (y, true) → scan ot.data.toList orv oq.data.toList (L.take k).reverse = some y := by
                intro y hy
                obtain ⟨x, hx⟩ : ∃ x, atF orv (S ot.data.toList) = x := ⟨_, rfl⟩
                obtain ⟨x1, x2⟩ := x
                rw [hx] at hy
                unfold getF at hy
                split at hy
                · rename_i hr
                  simp only at hr
                  simp only [Prod.mk.injEq] at hy
                  obtain ⟨z, hz⟩ := Option.isSome_iff_exists.1 hy.2
                  have hyz : z = y := by rw [hz] at hy; exact hy.1
                  subst hyz
                  have := (hist_at (o := ⟨0, ot, orv, oq, oy⟩) H3.out.h hx hz).2
                  rw [hr] at this
                  exact this
                · simp at hy
              obtain ⟨g, hg⟩ : ∃ g, getF orv oq.data.toList (atF orv (S ot.data.toList)) = g := ⟨_, rfl⟩
              rw [hg] at hsc ⊢
              obtain ⟨y, is⟩ := g
              have HSC := Lib.hid hsc
              have H4 := Lib.hid h4
              obtain ⟨g0, g1, g2, g3, g4⟩ := ho4.cells
              have HO4 := Lib.hid ho4
              have HOL := (Array.getElem?_eq_some_iff.1 ho4.h).1
              clear hg hsc h4 ho4 hp HOB H3 d0 d1 d2 d3 d4
              cases is
              · clear g0 g1 g2 g3 g4
                go_wp2
                exact HEND.out _ _ _ _ _ H4.out (by omega)
              · have hs0 := HSC.out y rfl
                have HS0 := Lib.hid hs0
                clear hs0 HSC
                go_wp2
                go_loopw [11] (fun v11 wq => ∃ m : Nat, m ≤ k ∧ v11 = .int .i64 ((m : Int) - 1) ∧ Below w4.heap.size w4 wq ∧ scan ot.data.toList orv oq.data.toList (L.take m).reverse = some y) (fun v11 _ => (intOf v11 + 1).toNat)
                case atStart => exact ⟨k, Nat.le_refl _, rfl, Below.refl _ _, HS0.out⟩
                case round =>
                  obtain ⟨m, hm, rfl, hbq, hsc⟩ := hrel
                  obtain ⟨j, rfl⟩ : ∃ j, m = j + 1 := by
                    cases m with
                    | zero => simp [scan] at hsc
                    | succ j => exact ⟨j, rfl⟩
                  have ej : ((j + 1 : Nat) : Int) - 1 = (j : Int) := by omega
                  rw [ej] at *
                  clear ej
                  have hj0 : (0 : Int) ≤ (j : Int) := by omega
                  have hjn : (j : Int) < (n : Int) := by omega
                  obtain ⟨a', b', p, ea, hb', hp, sp1, sp3, hC, hCs⟩ := HR.out.get (k := j) (by omega)
                  cases ea
                  obtain ⟨d0, d1, d2, d3, d4⟩ := hCs wr (keepB H4.out.m.below hbq)
                  rw [take_rev (by rw [HR.out.1]; omega) hp] at hsc
                  have q0 := keepC hbq g0
                  have q1 := keepC hbq g1
                  have q2 := keepC hbq g2
                  have q3 := keepC hbq g3
                  have q4 := keepC hbq g4
                  have HBQ := Lib.hid hbq
                  have HS := Lib.hid hsc
                  clear hC hCs hp hbq hsc HS0 HO4
                  obtain ⟨pk, pt, prv, pq, py⟩ := p
                  simp only at d0 d1 d2 d3 d4 sp1 sp3
                  clear g0 g1 g2 g3 g4
                  by_cases c1 : pk = 1
                  · subst c1
                    by_cases ct : pt.data.toList = ot.data.toList
                    · obtain ⟨t1, t2⟩ := eq_ba ct
                      by_cases cr : prv = orv
                      · subst cr
                        have r1 : (prv != prv) = false := by simp
                        by_cases cq : pq.data.toList = oq.data.toList
                        · obtain ⟨u1, u2⟩ := eq_ba cq
                          have hy : py = y := by
                            have := HS.out
                            simpa [scan, tn, qn, ct, cq] using this
                          subst hy
                          have y1 : (py != py) = false := by simp
                          clear HS
                          go_wp2
                          go_quiet (fail)
                          go_wp2
                          exact HEND.out _ _ _ _ _ (H4.out.below (below_drewN HBQ.out _)) (by omega)
                        · obtain ⟨u1, u2⟩ := neq_ba cq
                          obtain ⟨hrest, hnb⟩ := scan_pop HS.out (fun hc => cq hc.2.2.2)
                          have HREST := Lib.hid hrest
                          have z1 : decide (prv < prv) = false := by simp
                          clear HS hrest hnb
                          go_wp2
                          go_quiet (fail)
                          go_wp2
                          go_quiet (fail)
                          go_wp2
                          exact ⟨⟨j, by omega, by go_num, below_drewN HBQ.out _, HREST.out⟩, by simp [intOf]⟩
                      · have r1 : (prv != orv) = true := by simpa using cr
                        obtain ⟨hrest, hnb⟩ := scan_pop HS.out (fun hc => cr hc.2.2.1)
                        have hlt : ¬ orv < prv := fun hlt => hnb (.inr ⟨ct, hlt, .inr rfl⟩)
                        have HREST := Lib.hid hrest
                        have z1 : decide (orv < prv) = false := by simpa using hlt
                        clear HS hrest hnb
                        go_wp2
                        go_quiet (fail)
                        go_wp2
                        go_quiet (fail)
                        go_wp2
                        exact ⟨⟨j, by omega, by go_num, below_drewN HBQ.out _, HREST.out⟩, by simp [intOf]⟩
                    · obtain ⟨t1, t2⟩ := neq_ba ct
                      obtain ⟨hrest, hnb⟩ := scan_pop HS.out (fun hc => ct hc.2.1)
                      have HREST := Lib.hid hrest
                      clear HS hrest hnb
                      go_wp2
                      go_quiet (fail)
                      go_wp2
                      go_quiet (fail)
                      go_wp2
                      exact ⟨⟨j, by omega, by go_num, below_drewN HBQ.out _, HREST.out⟩, by simp [intOf]⟩
                  · have p1 : (pk != 1) = true := by simpa using c1
                    have p1' : (pk == 1) = false := by simpa using c1
                    by_cases ct : pt.data.toList = ot.data.toList
                    · obtain ⟨t1, t2⟩ := eq_ba ct
                      obtain ⟨hrest, hnb⟩ := scan_pop HS.out (fun hc => c1 hc.1)
                      have c2 : pk ≠ 2 := fun e => hnb (.inl ⟨e, ct⟩)
                      have p2 : (pk == 2) = false := by simpa using c2
                      by_cases hlt : orv < prv
                      · have c0 : pk ≠ 0 := fun e => hnb (.inr ⟨ct, hlt, .inl e⟩)
                        have p0 : (pk == 0) = false := by simpa using c0
                        have HREST := Lib.hid hrest
                        have z1 : decide (orv < prv) = true := by simpa using hlt
                        clear HS hrest hnb
                        go_wp2
                        go_quiet (fail)
                        go_wp2
                        go_quiet (fail)
                        go_wp2
                        exact ⟨⟨j, by omega, by go_num, below_drewN HBQ.out _, HREST.out⟩, by simp [intOf]⟩
                      · have HREST := Lib.hid hrest
                        have z1 : decide (orv < prv) = false := by simpa using hlt
                        clear HS hrest hnb
                        go_wp2
                        go_quiet (fail)
                        go_wp2
                        go_quiet (fail)
                        go_wp2
                        exact ⟨⟨j, by omega, by go_num, below_drewN HBQ.out _, HREST.out⟩, by simp [intOf]⟩
                    · obtain ⟨t1, t2⟩ := neq_ba ct
                      obtain ⟨hrest, hnb⟩ := scan_pop HS.out (fun hc => c1 hc.1)
                      have HREST := Lib.hid hrest
                      clear HS hrest hnb
                      by_cases c2 : pk = 2
                      · have p2 : (pk == 2) = true := by simpa using c2
                        go_wp2
                        go_quiet (fail)
                        go_wp2
                        go_quiet (fail)
                        go_wp2
                        exact ⟨⟨j, by omega, by go_num, below_drewN HBQ.out _, HREST.out⟩, by simp [intOf]⟩
                      · have p2 : (pk == 2) = false := by simpa using c2
                        go_wp2
                        go_quiet (fail)
                        go_wp2
                        go_quiet (fail)
                        go_wp2
                        exact ⟨⟨j, by omega, by go_num, below_drewN HBQ.out _, HREST.out⟩, by simp [intOf]⟩
            · have k0b : (ok != 0) = true := by simpa using k0
              go_wp2
              exact HEND.out _ _ _ _ _ ⟨H3.out.r, H3.out.b, H3.out.m, hist_none H3.out.h k0 k1 k2⟩ (by omega)
      · have hb := HT.out.m.below
        clear HT
        go_wp2
        go_ret
        exact ⟨rfl, hb⟩
end Go.Proofs.Ytfmekhebdpjdkaa.C

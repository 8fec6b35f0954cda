/-
  The law CacheApart, walked.
-/
import Derived.Test.YtfmekhebdpjdkaaCacheI
namespace Go.Proofs.Ytfmekhebdpjdkaa.C
open Go.RowKit Go.Proofs.Ytfmekhebdpjdkaa.B
set_option linter.unusedVariables false
set_option linter.unusedSimpArgs false

structure Two (w0 w : World) (most : Int) (N cb : Nat) (tc : Nat → Option Tag) (mc : Nat) (pc : Nm → Option Nat) (Sc : Nm → Option Tn) (db : Nat) (td : Nat → Option Tag) (md : Nat) (pd : Nm → Option Nat) (Sd : Nm → Option Tn) : Prop where
  c : Rep w cb most N tc mc pc Sc
  d : Rep w db most N td md pd Sd
  mc : Mine w0 w tc
  md : Mine w0 w td
  dis : ∀ b, tc b ≠ none → td b = none
theorem Two.left {w0 w w' : World} {most : Int} {N N' cb : Nat} {tc : Nat → Option Tag} {mc : Nat} {pc : Nm → Option Nat} {Sc : Nm → Option Tn} {db : Nat} {td : Nat → Option Tag} {md : Nat} {pd : Nm → Option Nat} {Sd Sc' : Nm → Option Tn} {v : Value} {e : Ending}
    (h : Two w0 w most N cb tc mc pc Sc db td md pd Sd) (hN : N ≤ N') (hp : CPost w cb most N' tc mc Sc' v e w') : e = .returned v ∧ ∃ tc' pc', Two w0 w' most N' cb tc' mc pc' Sc' db td md pd Sd := by
  obtain ⟨tc', pc', he, hR, hT⟩ := hp
  refine ⟨he, tc', pc', hR, (h.d.kept (fun b hb => hT.1.block b (h.d.lt b hb) (fun hf => hb (h.dis b hf))) hT.1.size).mono hN, h.mc.step hT, ⟨(h.mc.step hT).below, h.md.new⟩, fun b hb => ?_⟩
  by_cases hlt : b < w.heap.size
  · exact h.dis b (by rw [← hT.2 b hlt]; exact hb)
  · cases hd : td b with
    | none => rfl
    | some x => exact absurd (h.d.lt b (by rw [hd]; simp)) hlt
theorem Two.swap {w0 w : World} {most : Int} {N cb : Nat} {tc : Nat → Option Tag} {mc : Nat} {pc : Nm → Option Nat} {Sc : Nm → Option Tn} {db : Nat} {td : Nat → Option Tag} {md : Nat} {pd : Nm → Option Nat} {Sd : Nm → Option Tn}
    (h : Two w0 w most N cb tc mc pc Sc db td md pd Sd) : Two w0 w most N db td md pd Sd cb tc mc pc Sc :=
  ⟨h.d, h.c, h.md, h.mc, fun b hb => by
    cases hc : tc b with
    | none => rfl
    | some x => exact absurd (h.dis b (by rw [hc]; simp)) hb⟩
theorem Two.right {w0 w w' : World} {most : Int} {N N' cb : Nat} {tc : Nat → Option Tag} {mc : Nat} {pc : Nm → Option Nat} {Sc : Nm → Option Tn} {db : Nat} {td : Nat → Option Tag} {md : Nat} {pd : Nm → Option Nat} {Sd Sd' : Nm → Option Tn} {v : Value} {e : Ending}
    (h : Two w0 w most N cb tc mc pc Sc db td md pd Sd) (hN : N ≤ N') (hp : CPost w db most N' td md Sd' v e w') : e = .returned v ∧ ∃ td' pd', Two w0 w' most N' cb tc mc pc Sc db td' md pd' Sd' := by
  obtain ⟨he, td', pd', h2⟩ := h.swap.left hN hp
  exact ⟨he, td', pd', h2.swap⟩
theorem Mine.below' {w0 w w' : World} {tag : Nat → Option Tag} (h : Mine w0 w tag) (hb : Below w.heap.size w w') : Mine w0 w' tag := ⟨keepB h.below hb, h.new⟩
theorem Two.below {w0 w w' : World} {most : Int} {N cb : Nat} {tc : Nat → Option Tag} {mc : Nat} {pc : Nm → Option Nat} {Sc : Nm → Option Tn} {db : Nat} {td : Nat → Option Tag} {md : Nat} {pd : Nm → Option Nat} {Sd : Nm → Option Tn}
    (h : Two w0 w most N cb tc mc pc Sc db td md pd Sd) (hb : Below w.heap.size w w') : Two w0 w' most N cb tc mc pc Sc db td md pd Sd :=
  ⟨h.c.below hb, h.d.below hb, h.mc.below' hb, h.md.below' hb, h.dis⟩
theorem Two.mono {w0 w : World} {most : Int} {N N' cb : Nat} {tc : Nat → Option Tag} {mc : Nat} {pc : Nm → Option Nat} {Sc : Nm → Option Tn} {db : Nat} {td : Nat → Option Tag} {md : Nat} {pd : Nm → Option Nat} {Sd : Nm → Option Tn}
    (h : Two w0 w most N cb tc mc pc Sc db td md pd Sd) (hN : N ≤ N') : Two w0 w most N' cb tc mc pc Sc db td md pd Sd := ⟨h.c.mono hN, h.d.mono hN, h.mc, h.md, h.dis⟩
structure OB (w : World) (tc td : Nat → Option Tag) (ob : Nat) (o : OpV) : Prop where
  c : tc ob = none
  d : td ob = none
  h : w.heap[ob]? = some (.cells #[.int .i64 o.kind, .string o.tenant, .int .i64 o.rev, .string o.question, .bool o.yes] 31 (0, 0))
theorem OB.step {w w' : World} {tc tc' td : Nat → Option Tag} {ob : Nat} {o : OpV} (h : OB w tc td ob o) (hT : TStep w tc w' tc') : OB w' tc' td ob o := by
  have hlt := (Array.getElem?_eq_some_iff.1 h.h).1
  exact ⟨(hT.2 ob hlt).trans h.c, h.d, (hT.1.block ob hlt (fun hf => hf h.c)).trans h.h⟩
theorem OB.swap {w : World} {tc td : Nat → Option Tag} {ob : Nat} {o : OpV} (h : OB w tc td ob o) : OB w td tc ob o := ⟨h.d, h.c, h.h⟩
theorem OB.cells {w : World} {tc td : Nat → Option Tag} {ob : Nat} {o : OpV} (h : OB w tc td ob o) : w.cell? ⟨ob, 0, none⟩ = some (.int .i64 o.kind) ∧ w.cell? ⟨ob, 1, none⟩ = some (.string o.tenant) ∧ w.cell? ⟨ob, 2, none⟩ = some (.int .i64 o.rev) ∧ w.cell? ⟨ob, 3, none⟩ = some (.string o.question) ∧ w.cell? ⟨ob, 4, none⟩ = some (.bool o.yes) :=
  ⟨cells_of h.h 0 _ rfl, cells_of h.h 1 _ rfl, cells_of h.h 2 _ rfl, cells_of h.h 3 _ rfl, cells_of h.h 4 _ rfl⟩
theorem two_left {w0 w w' : World} {most : Int} {N N' cb : Nat} {tc : Nat → Option Tag} {mc : Nat} {pc : Nm → Option Nat} {Sc : Nm → Option Tn} {db : Nat} {td : Nat → Option Tag} {md : Nat} {pd : Nm → Option Nat} {Sd Sc' : Nm → Option Tn} {v : Value} {e : Ending} {ob : Nat} {o : OpV}
    (h : Two w0 w most N cb tc mc pc Sc db td md pd Sd) (ho : OB w tc td ob o) (hN : N ≤ N') (hp : CPost w cb most N' tc mc Sc' v e w') : e = .returned v ∧ ∃ tc' pc', Two w0 w' most N' cb tc' mc pc' Sc' db td md pd Sd ∧ OB w' tc' td ob o := by
  obtain ⟨tc', pc', he, hR, hT⟩ := hp
  refine ⟨he, tc', pc', ⟨hR, (h.d.kept (fun b hb => hT.1.block b (h.d.lt b hb) (fun hf => hb (h.dis b hf))) hT.1.size).mono hN, h.mc.step hT, ⟨(h.mc.step hT).below, h.md.new⟩, fun b hb => ?_⟩, ho.step hT⟩
  by_cases hlt : b < w.heap.size
  · exact h.dis b (by rw [← hT.2 b hlt]; exact hb)
  · cases hd : td b with
    | none => rfl
    | some x => exact absurd (h.d.lt b (by rw [hd]; simp)) hlt
theorem two_right {w0 w w' : World} {most : Int} {N N' cb : Nat} {tc : Nat → Option Tag} {mc : Nat} {pc : Nm → Option Nat} {Sc : Nm → Option Tn} {db : Nat} {td : Nat → Option Tag} {md : Nat} {pd : Nm → Option Nat} {Sd Sd' : Nm → Option Tn} {v : Value} {e : Ending} {ob : Nat} {o : OpV}
    (h : Two w0 w most N cb tc mc pc Sc db td md pd Sd) (ho : OB w tc td ob o) (hN : N ≤ N') (hp : CPost w db most N' td md Sd' v e w') : e = .returned v ∧ ∃ td' pd', Two w0 w' most N' cb tc mc pc Sc db td' md pd' Sd' ∧ OB w' tc td' ob o := by
  obtain ⟨he, td', pd', h2, h3⟩ := two_left h.swap ho.swap hN hp
  exact ⟨he, td', pd', h2.swap, h3.swap⟩
theorem ba_ext {s t : ByteArray} (h : s.data.toList = t.data.toList) : s = t := by
  cases s; cases t
  simp only at h
  rw [Array.toList_inj.1 h]
theorem ba_ne {s t : ByteArray} (h : s ≠ t) : (s == t) = false := by
  show (s.data == t.data) = false
  have : s.data ≠ t.data := fun e => h (by cases s; cases t; simp only at e; rw [e])
  simpa using this
theorem ba_ne2 {s t : ByteArray} (h : s ≠ t) : (s.toList == t.toList) = false := by
  rw [ByteArray.toList_eq, ByteArray.toList_eq]
  have : s.data.toList ≠ t.data.toList := fun e => h (ba_ext e)
  simpa using this
theorem ba_rfl (s : ByteArray) : (s == s) = true := by
  show (s.data == s.data) = true
  simp
set_option maxRecDepth 100000 in
set_option maxHeartbeats 2000000 in
theorem CacheApart_calls (most : Int) (A : Option Addr) (n c : Nat) (L : List OpV) (tenant : ByteArray) (ht : tenant.size ≤ maxLen) (w : World) (hr : ORead w A n L) :
    Calls Try.prog 4 #[.int .i64 most, .slice A n c, .string tenant] w (TruePost w) := by
  have HR := Lib.hid hr; clear hr
  go_enter Try.func4, Try.ntmps4
  go_wp2_with fail
  refine (awake_calls w).mono ?_
  rintro e w1 ⟨rfl, hb1⟩
  go_wp2_with fail
  refine (New_calls w1 most).mono ?_
  rintro e w2 ⟨cb, tc, mc, pc, rfl, hRc, hbc, hnc⟩
  go_wp2_with fail
  refine (New_calls w2 most).mono ?_
  rintro e w3 ⟨db, td, md, pd, rfl, hRd, hbd, hnd⟩
  have hb2 := keepB hb1 hbc
  have hb3 := keepB hb2 hbd
  have h2 : Two w w3 most 0 cb tc mc pc (fun _ => none) db td md pd (fun _ => none) :=
    ⟨hRc.below hbd, hRd, ⟨hb3, fun b hb => Nat.le_trans hb1.size (hnc b hb)⟩, ⟨hb3, fun b hb => Nat.le_trans hb2.size (hnd b hb)⟩, fun b hb => by
      cases hd : td b with
      | none => rfl
      | some x => have h1 := hRc.lt b hb; have h2 := hnd b (by rw [hd]; simp); omega⟩
  have H2 := Lib.hid h2
  clear h2 hRc hRd hbc hbd hnc hnd hb1 hb2
  by_cases hn : (n : Int) > 200
  · go_wp2
    go_ret
    exact ⟨rfl, hb3⟩
  · go_wp2
    clear hb3
    go_loopw [10] (fun v10 wr => ∃ (k : Nat) (tc : Nat → Option Tag) (pc : Nm → Option Nat) (Sc : Nm → Option Tn) (td : Nat → Option Tag) (pd : Nm → Option Nat) (Sd : Nm → Option Tn), k ≤ n ∧ v10 = .int .i64 k ∧ Two w wr most (4 * k) cb tc mc pc Sc db td md pd Sd ∧ Bd most Sc ∧ Bd most Sd ∧ Sc tenant.data.toList = Sd tenant.data.toList) (fun v10 _ => n - (intOf v10).toNat)
    case atStart => exact ⟨0, tc, pc, _, td, pd, _, Nat.zero_le _, rfl, H2.out, Bd.empty _, Bd.empty _, rfl⟩
    case round =>
      clear H2
      obtain ⟨k, tc, pc, Sc, td, pd, Sd, hk, rfl, h2, hBc, hBd, hS⟩ := hrel
      have H2 := Lib.hid h2
      have HBc := Lib.hid hBc
      have HBd := Lib.hid hBd
      have HS := Lib.hid hS
      clear h2 hBc hBd hS
      by_cases hkn : k < n
      · obtain ⟨a, b, o, rfl, hb, ho, s1, s3, hC, hCs⟩ := HR.out.get hkn
        obtain ⟨d0, d1, d2, d3, d4⟩ := hCs wr H2.out.mc.below
        clear hC hCs ho
        have hob : OB (wr.alloc (.cells #[.int .i64 o.kind, .string o.tenant, .int .i64 o.rev, .string o.question, .bool o.yes] 31)) tc td wr.heap.size o :=
          ⟨Decidable.byContradiction fun h => by have := H2.out.c.lt _ h; omega, Decidable.byContradiction fun h => by have := H2.out.d.lt _ h; omega, heap_alloc_new wr _⟩
        have H3 := Lib.hid (H2.out.below (w' := wr.alloc (.cells #[.int .i64 o.kind, .string o.tenant, .int .i64 o.rev, .string o.question, .bool o.yes] 31)) ((Below.refl _ _).alloc (Nat.le_refl _) _))
        have HOB := Lib.hid hob
        clear H2 hob
        obtain ⟨ok, ot, orv, oq, oy⟩ := o
        simp only at s1 s3 d0 d1 d2 d3 d4 H3 HOB
        by_cases k0 : ok = 0
        · subst k0
          go_wp2_with fail
          refine (Get_calls H3.out.c (by omega) ot s1 orv oq s3).mono ?_
          intro e w4 hp
          obtain ⟨rfl, tc4, pc4, h4, ho4⟩ := two_left H3.out HOB.out (by omega) hp
          obtain ⟨g0, g1, g2, g3, g4⟩ := ho4.cells
          have HO4 := Lib.hid ho4
          clear hp HOB ho4 H3 d0 d1 d2 d3 d4
          by_cases kt : ot = tenant
          · subst kt
            have hT := HBc.out
            obtain ⟨x, hx⟩ : ∃ x, atF orv (Sc ot.data.toList) = x := ⟨_, rfl⟩
            have hx' : atF orv (Sd ot.data.toList) = x := by rw [← HS.out]; exact hx
            have tb : TB most x := by rw [← hx]; exact atTB HBc.out _ _
            rw [hx] at h4 ⊢
            obtain ⟨xa, hxa⟩ : ∃ xa, getF orv oq.data.toList x = xa := ⟨_, rfl⟩
            rw [hxa]
            obtain ⟨xa1, xa2⟩ := xa
            have H4 := Lib.hid h4
            clear h4 hT
            have HX := Lib.hid hx'
            have HXA := Lib.hid hxa
            have TBX := Lib.hid tb
            clear hx hx' hxa tb
            have hbt : (ot == ot) = true := ba_rfl _
            go_wp2_with fail
            refine (Get_calls H4.out.d (by omega) ot s1 orv oq s3).mono ?_
            intro e w5 hp
            obtain ⟨rfl, td5, pd5, h5, ho5⟩ := two_right H4.out HO4.out (by omega) hp
            rw [HX.out] at h5 ⊢
            rw [HXA.out]
            clear hp HO4 H4 g0 g1 g2 g3 g4 ho5 HX HXA
            have hS9 := (show upd Sc ot.data.toList (some x) ot.data.toList = upd Sd ot.data.toList (some x) ot.data.toList by rw [upd_same, upd_same])
            have HB9c := Lib.hid (HBc.out.upd ot.data.toList (t := some x) (fun y hy => by cases hy; exact TBX.out))
            have HB9d := Lib.hid (HBd.out.upd ot.data.toList (t := some x) (fun y hy => by cases hy; exact TBX.out))
            have H9 := Lib.hid h5
            have HS9 := Lib.hid hS9
            clear hS9 h5
            go_wp2_with fail
            refine (Len_calls H9.out.c ot ht).mono ?_
            rintro e w9 ⟨he, rfl⟩
            obtain ⟨z, hz⟩ : ∃ z, lenF (_ : Option Tn) = z := ⟨lenF (upd Sc ot.data.toList (some x) ot.data.toList), rfl⟩
            rw [hz] at he
            subst he
            go_wp2_with fail
            refine (Len_calls H9.out.d ot ht).mono ?_
            rintro e w10 ⟨he, rfl⟩
            rw [← HS9.out, hz] at he
            subst he
            clear hz
            go_wp2
            exact ⟨⟨k + 1, _, _, _, _, _, _, by omega, by go_num, H9.out.mono (by omega), HB9c.out, HB9d.out, HS9.out⟩, by simp [intOf]; omega⟩
          · have hbt : (ot.toList == tenant.toList) = false := ba_ne2 kt
            have hne : tenant.data.toList ≠ ot.data.toList := fun e => kt (ba_ext e).symm
            have tb := atTB HBc.out orv ot.data.toList
            clear g0 g2 g3 g4 HO4
            have hS9 := (show upd Sc ot.data.toList (some (atF orv (Sc ot.data.toList))) tenant.data.toList = Sd tenant.data.toList by rw [upd_other _ _ hne]; exact HS.out)
            have HB9c := Lib.hid (HBc.out.upd ot.data.toList (t := some (atF orv (Sc ot.data.toList))) (fun y hy => by cases hy; exact tb))
            have HB9d := Lib.hid (HBd.out)
            have H9 := Lib.hid h4
            have HS9 := Lib.hid hS9
            clear hS9 h4
            go_wp2_with fail
            refine (Len_calls H9.out.c tenant ht).mono ?_
            rintro e w9 ⟨he, rfl⟩
            obtain ⟨z, hz⟩ : ∃ z, lenF (_ : Option Tn) = z := ⟨lenF (upd Sc ot.data.toList (some (atF orv (Sc ot.data.toList))) tenant.data.toList), rfl⟩
            rw [hz] at he
            subst he
            go_wp2_with fail
            refine (Len_calls H9.out.d tenant ht).mono ?_
            rintro e w10 ⟨he, rfl⟩
            rw [← HS9.out, hz] at he
            subst he
            clear hz
            go_wp2
            exact ⟨⟨k + 1, _, _, _, _, _, _, by omega, by go_num, H9.out.mono (by omega), HB9c.out, HB9d.out, HS9.out⟩, by simp [intOf]; omega⟩
        · have k0b : (ok == 0) = false := by simpa using k0
          by_cases k1 : ok = 1
          · subst k1
            go_wp2_with fail
            refine (Put_calls H3.out.c (by omega) ot s1 orv oq s3 oy (fun h1 => (atTB HBc.out orv _).1 h1)).mono ?_
            intro e w4 hp
            obtain ⟨rfl, tc4, pc4, h4, ho4⟩ := two_left H3.out HOB.out (by omega) hp
            obtain ⟨g0, g1, g2, g3, g4⟩ := ho4.cells
            have HO4 := Lib.hid ho4
            clear hp HOB ho4 H3 d0 d1 d2 d3 d4
            have tb := putTB (rev := orv) (q := oq.data.toList) (y := oy) (atTB HBc.out orv ot.data.toList)
            obtain ⟨x, hx⟩ : ∃ x, putF most orv oq.data.toList oy (atF orv (Sc ot.data.toList)) = x := ⟨_, rfl⟩
            rw [hx] at h4 tb
            have H4 := Lib.hid h4
            have TBX := Lib.hid tb
            clear h4 tb
            by_cases kt : ot = tenant
            · subst kt
              have hx' : putF most orv oq.data.toList oy (atF orv (Sd ot.data.toList)) = x := by rw [← HS.out]; exact hx
              have HX := Lib.hid hx'
              clear hx hx'
              have hbt : (ot == ot) = true := ba_rfl _
              go_wp2_with fail
              refine (Put_calls H4.out.d (by omega) ot s1 orv oq s3 oy (fun h1 => (atTB HBd.out orv _).1 h1)).mono ?_
              intro e w5 hp
              obtain ⟨rfl, td5, pd5, h5, ho5⟩ := two_right H4.out HO4.out (by omega) hp
              rw [HX.out] at h5
              clear hp HO4 H4 g0 g1 g2 g3 g4 ho5 HX
              have hS9 := (show upd Sc ot.data.toList (some x) ot.data.toList = upd Sd ot.data.toList (some x) ot.data.toList by rw [upd_same, upd_same])
              have HB9c := Lib.hid (HBc.out.upd ot.data.toList (t := some x) (fun y hy => by cases hy; exact TBX.out))
              have HB9d := Lib.hid (HBd.out.upd ot.data.toList (t := some x) (fun y hy => by cases hy; exact TBX.out))
              have H9 := Lib.hid h5
              have HS9 := Lib.hid hS9
              clear hS9 h5
              go_wp2_with fail
              refine (Len_calls H9.out.c ot ht).mono ?_
              rintro e w9 ⟨he, rfl⟩
              obtain ⟨z, hz⟩ : ∃ z, lenF (_ : Option Tn) = z := ⟨lenF (upd Sc ot.data.toList (some x) ot.data.toList), rfl⟩
              rw [hz] at he
              subst he
              go_wp2_with fail
              refine (Len_calls H9.out.d ot ht).mono ?_
              rintro e w10 ⟨he, rfl⟩
              rw [← HS9.out, hz] at he
              subst he
              clear hz
              go_wp2
              exact ⟨⟨k + 1, _, _, _, _, _, _, by omega, by go_num, H9.out.mono (by omega), HB9c.out, HB9d.out, HS9.out⟩, by simp [intOf]; omega⟩
            · have hbt : (ot.toList == tenant.toList) = false := ba_ne2 kt
              have hne : tenant.data.toList ≠ ot.data.toList := fun e => kt (ba_ext e).symm
              have h4 := H4.out
              clear g0 g2 g3 g4 HO4 H4 hx
              have hS9 := (show upd Sc ot.data.toList (some x) tenant.data.toList = Sd tenant.data.toList by rw [upd_other _ _ hne]; exact HS.out)
              have HB9c := Lib.hid (HBc.out.upd ot.data.toList (t := some x) (fun y hy => by cases hy; exact TBX.out))
              have HB9d := Lib.hid (HBd.out)
              have H9 := Lib.hid h4
              have HS9 := Lib.hid hS9
              clear hS9 h4
              go_wp2_with fail
              refine (Len_calls H9.out.c tenant ht).mono ?_
              rintro e w9 ⟨he, rfl⟩
              obtain ⟨z, hz⟩ : ∃ z, lenF (_ : Option Tn) = z := ⟨lenF (upd Sc ot.data.toList (some x) tenant.data.toList), rfl⟩
              rw [hz] at he
              subst he
              go_wp2_with fail
              refine (Len_calls H9.out.d tenant ht).mono ?_
              rintro e w10 ⟨he, rfl⟩
              rw [← HS9.out, hz] at he
              subst he
              clear hz
              go_wp2
              exact ⟨⟨k + 1, _, _, _, _, _, _, by omega, by go_num, H9.out.mono (by omega), HB9c.out, HB9d.out, HS9.out⟩, by simp [intOf]; omega⟩
          · have k1b : (ok == 1) = false := by simpa using k1
            by_cases k2 : ok = 2
            · subst k2
              go_wp2_with fail
              refine (Drop_calls H3.out.c ot s1).mono ?_
              intro e w4 hp
              obtain ⟨rfl, tc4, pc4, h4, ho4⟩ := two_left H3.out HOB.out (Nat.le_refl _) hp
              obtain ⟨g0, g1, g2, g3, g4⟩ := ho4.cells
              have HO4 := Lib.hid ho4
              have H4 := Lib.hid h4
              clear hp HOB ho4 H3 d0 d1 d2 d3 d4 h4
              by_cases kt : ot = tenant
              · subst kt
                have hbt : (ot == ot) = true := ba_rfl _
                go_wp2_with fail
                refine (Drop_calls H4.out.d ot s1).mono ?_
                intro e w5 hp
                obtain ⟨rfl, td5, pd5, h5, ho5⟩ := two_right H4.out HO4.out (Nat.le_refl _) hp
                clear hp HO4 H4 g0 g1 g2 g3 g4 ho5
                have hS9 := (show upd Sc ot.data.toList none ot.data.toList = upd Sd ot.data.toList none ot.data.toList by rw [upd_same, upd_same])
                have HB9c := Lib.hid (HBc.out.upd ot.data.toList (t := none) (fun y hy => by cases hy))
                have HB9d := Lib.hid (HBd.out.upd ot.data.toList (t := none) (fun y hy => by cases hy))
                have H9 := Lib.hid h5
                have HS9 := Lib.hid hS9
                clear hS9 h5
                go_wp2_with fail
                refine (Len_calls H9.out.c ot ht).mono ?_
                rintro e w9 ⟨he, rfl⟩
                obtain ⟨z, hz⟩ : ∃ z, lenF (_ : Option Tn) = z := ⟨lenF (upd Sc ot.data.toList none ot.data.toList), rfl⟩
                rw [hz] at he
                subst he
                go_wp2_with fail
                refine (Len_calls H9.out.d ot ht).mono ?_
                rintro e w10 ⟨he, rfl⟩
                rw [← HS9.out, hz] at he
                subst he
                clear hz
                go_wp2
                exact ⟨⟨k + 1, _, _, _, _, _, _, by omega, by go_num, H9.out.mono (by omega), HB9c.out, HB9d.out, HS9.out⟩, by simp [intOf]; omega⟩
              · have hbt : (ot.toList == tenant.toList) = false := ba_ne2 kt
                have hne : tenant.data.toList ≠ ot.data.toList := fun e => kt (ba_ext e).symm
                have h4 := H4.out
                clear g0 g2 g3 g4 HO4 H4
                have hS9 := (show upd Sc ot.data.toList none tenant.data.toList = Sd tenant.data.toList by rw [upd_other _ _ hne]; exact HS.out)
                have HB9c := Lib.hid (HBc.out.upd ot.data.toList (t := none) (fun y hy => by cases hy))
                have HB9d := Lib.hid (HBd.out)
                have H9 := Lib.hid h4
                have HS9 := Lib.hid hS9
                clear hS9 h4
                go_wp2_with fail
                refine (Len_calls H9.out.c tenant ht).mono ?_
                rintro e w9 ⟨he, rfl⟩
                obtain ⟨z, hz⟩ : ∃ z, lenF (_ : Option Tn) = z := ⟨lenF (upd Sc ot.data.toList none tenant.data.toList), rfl⟩
                rw [hz] at he
                subst he
                go_wp2_with fail
                refine (Len_calls H9.out.d tenant ht).mono ?_
                rintro e w10 ⟨he, rfl⟩
                rw [← HS9.out, hz] at he
                subst he
                clear hz
                go_wp2
                exact ⟨⟨k + 1, _, _, _, _, _, _, by omega, by go_num, H9.out.mono (by omega), HB9c.out, HB9d.out, HS9.out⟩, by simp [intOf]; omega⟩
            · have k2b : (ok == 2) = false := by simpa using k2
              have h4 := H3.out
              clear H3 HOB
              have hS9 := HS.out
              have HB9c := Lib.hid (HBc.out)
              have HB9d := Lib.hid (HBd.out)
              have H9 := Lib.hid h4
              have HS9 := Lib.hid hS9
              clear hS9 h4
              go_wp2_with fail
              refine (Len_calls H9.out.c tenant ht).mono ?_
              rintro e w9 ⟨he, rfl⟩
              obtain ⟨z, hz⟩ : ∃ z, lenF (_ : Option Tn) = z := ⟨lenF (Sc tenant.data.toList), rfl⟩
              rw [hz] at he
              subst he
              go_wp2_with fail
              refine (Len_calls H9.out.d tenant ht).mono ?_
              rintro e w10 ⟨he, rfl⟩
              rw [← HS9.out, hz] at he
              subst he
              clear hz
              go_wp2
              exact ⟨⟨k + 1, _, _, _, _, _, _, by omega, by go_num, H9.out.mono (by omega), HB9c.out, HB9d.out, HS9.out⟩, by simp [intOf]; omega⟩
      · have hb := H2.out.mc.below
        clear H2
        go_wp2
        go_ret
        exact ⟨rfl, hb⟩
end Go.Proofs.Ytfmekhebdpjdkaa.C

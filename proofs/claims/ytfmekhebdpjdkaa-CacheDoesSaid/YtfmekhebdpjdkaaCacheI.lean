/-
  The law CacheBounds, walked.
-/
import Derived.Test.YtfmekhebdpjdkaaCacheH
import Derived.Test.YtfmekhebdpjdkaaCacheO
import Derived.StillTailTactics
namespace Go.Proofs.Ytfmekhebdpjdkaa.C
open Go.RowKit Go.Proofs.Ytfmekhebdpjdkaa.B
set_option linter.unusedVariables false
set_option linter.unusedSimpArgs false

/-- The fields of an element, as the walk spells them. -/
def OCells (w : World) (b : Addr) (o : OpV) : Prop := w.cell? b = some (.int .i64 o.kind) ∧ w.cell? ⟨b.block, b.off + 1, none⟩ = some (.string o.tenant) ∧ w.cell? ⟨b.block, b.off + 2, none⟩ = some (.int .i64 o.rev) ∧
  w.cell? ⟨b.block, b.off + 3, none⟩ = some (.string o.question) ∧ w.cell? ⟨b.block, b.off + 4, none⟩ = some (.bool o.yes)
theorem ORead.get {w : World} {A : Option Addr} {n : Nat} {L : List OpV} (h : ORead w A n L) {k : Nat} (hk : k < n) : ∃ a b o, A = some a ∧ a.add (k * 5) = b ∧ L.getD k OpV.none = o ∧ o.tenant.size ≤ maxLen ∧ o.question.size ≤ maxLen ∧ OCells w b o ∧
    ∀ w', Below w.heap.size w w' → OCells w' b o := by
  obtain ⟨a, h0, h1, h2, h3, h4, h5, h6, h7⟩ := h.2 k hk
  rw [← Deep.add_add] at h2 h3 h4 h5
  exact ⟨a, _, _, h0, rfl, rfl, h6, h7, ⟨h1, h2, h3, h4, h5⟩, fun w' hb => ⟨keepC hb h1, keepC hb h2, keepC hb h3, keepC hb h4, keepC hb h5⟩⟩
def TB (most : Int) (t : Tn) : Prop := (1 ≤ most → (t.2.length : Int) ≤ most) ∧ (most < 1 → t.2 = [])
def Bd (most : Int) (S : Nm → Option Tn) : Prop := ∀ nm t, S nm = some t → TB most t
theorem Bd.empty (most : Int) : Bd most (fun _ => none) := fun nm t h => by cases h
theorem atTB {most : Int} {S : Nm → Option Tn} (h : Bd most S) (rev : Int) (nm : Nm) : TB most (atF rev (S nm)) := by
  cases hS : S nm with
  | none => exact ⟨fun _ => by simp [atF]; omega, fun _ => rfl⟩
  | some t =>
    have := h nm t hS
    obtain ⟨r, l⟩ := t
    unfold atF
    dsimp only
    split
    · exact ⟨fun _ => by simp; omega, fun _ => rfl⟩
    · exact this
theorem putTB {most rev : Int} {q : Nm} {y : Bool} {t : Tn} (h : TB most t) : TB most (putF most rev q y t) := by
  unfold putF
  split
  · exact h
  · rename_i hi
    have h1 : ¬ most < 1 := fun hc => hi (.inr hc)
    have h2 := h.1 (by omega)
    split
    · exact ⟨fun _ => by simpa [repl] using h2, fun hc => absurd hc h1⟩
    · refine ⟨fun _ => ?_, fun hc => absurd hc h1⟩
      dsimp only
      split
      · simp only [List.length_drop, List.length_append, List.length_cons, List.length_nil]; omega
      · omega
theorem Bd.upd {most : Int} {S : Nm → Option Tn} (h : Bd most S) (nm : Nm) {t : Option Tn} (ht : ∀ x, t = some x → TB most x) : Bd most (upd S nm t) := by
  intro r x hx
  by_cases hr : r = nm
  · subst hr; rw [upd_same] at hx; exact ht x hx
  · rw [upd_other _ _ hr] at hx; exact h r x hx
theorem Bd.len {most : Int} {S : Nm → Option Tn} (h : Bd most S) (nm : Nm) : 0 ≤ lenF (S nm) ∧ (1 ≤ most → lenF (S nm) ≤ most) ∧ (most < 1 → lenF (S nm) = 0) := by
  cases hS : S nm with
  | none => exact ⟨by simp [lenF], fun h => by simp [lenF]; omega, fun _ => rfl⟩
  | some t =>
    have := h nm t hS
    refine ⟨by simp [lenF], this.1, fun hc => ?_⟩
    simp [lenF, this.2 hc]
set_option maxRecDepth 100000 in
set_option maxHeartbeats 2000000 in
theorem CacheBounds_calls (most : Int) (A : Option Addr) (n c : Nat) (L : List OpV) (rev : Int) (question : ByteArray) (hq : question.size ≤ maxLen) (yes : Bool) (w : World) (hr : ORead w A n L) :
    Calls Try.prog 6 #[.int .i64 most, .slice A n c, .int .i64 rev, .string question, .bool yes] w (TruePost w) := by
  have HR := Lib.hid hr; clear hr
  go_enter Try.func6, Try.ntmps6
  go_wp2_with fail
  refine (awake_calls w).mono ?_
  rintro e w1 ⟨rfl, hb1⟩
  go_wp2_with fail
  refine (New_calls w1 most).mono ?_
  rintro e w2 ⟨cb, tag, mb, pm, rfl, hR, hb, hn⟩
  have hb2 := keepB hb1 hb
  have hM : Mine w w2 tag := ⟨hb2, fun b hb => Nat.le_trans hb1.size (hn b hb)⟩
  have RR := Lib.hid hR
  have HM := Lib.hid hM
  clear hR hM hb hn
  by_cases hn : (n : Int) > 200
  · go_wp2
    go_ret
    exact ⟨rfl, hb2⟩
  · go_wp2
    clear hb1 hb2
    go_loopw [13] (fun v13 wr => ∃ (k : Nat) (S : Nm → Option Tn) (tag : Nat → Option Tag) (pm : Nm → Option Nat), k ≤ n ∧ v13 = .int .i64 k ∧ Rep wr cb most (2 * k) tag mb pm S ∧ Bd most S ∧ Mine w wr tag) (fun v13 _ => n - (intOf v13).toNat)
    case atStart => exact ⟨0, _, tag, pm, Nat.zero_le _, rfl, RR.out, Bd.empty _, HM.out⟩
    case round =>
      clear RR HM
      obtain ⟨k, S, tag, pm, hk, rfl, hR, hB, hM⟩ := hrel
      have RR := Lib.hid hR
      have HB := Lib.hid hB
      have HM := Lib.hid hM
      clear hR hB hM
      by_cases hkn : k < n
      · obtain ⟨a, b, o, rfl, hb, ho, s1, s3, hC, hCs⟩ := HR.out.get hkn
        have HC := Lib.hid hCs
        obtain ⟨d0, d1, d2, d3, d4⟩ := hCs wr HM.out.below
        clear hC hCs ho
        go_wp2
        go_still_tail 21, (by kernel_rfl)
        change wpList _ _ _ _ _ wr.drew
        have RD := Lib.hid (RR.out.below (w' := wr.drew) ⟨rfl, rfl, rfl, Nat.le_refl _, fun _ _ => rfl⟩)
        have hMD : Mine w wr.drew tag := ⟨⟨HM.out.below.os, HM.out.below.tape, HM.out.below.output, HM.out.below.size, HM.out.below.block⟩, HM.out.new⟩
        have HMD := Lib.hid hMD
        clear hMD RR HM d0 d1 d2 d3 d4
        generalize wr.drew = wd at *
        go_wp2_with fail
        refine (Put_calls RD.out (by omega) o.tenant s1 o.rev o.question s3 o.yes (fun h1 => (atTB HB.out o.rev _).1 h1)).mono ?_
        rintro e w3 ⟨tag3, pm3, rfl, hR3, hT⟩
        have hM3 := HMD.out.step hT
        have hB3 := Lib.hid (HB.out.upd o.tenant.data.toList (t := some (putF most o.rev o.question.data.toList o.yes (atF o.rev (S o.tenant.data.toList)))) (fun x hx => by cases hx; exact putTB (atTB HB.out _ _)))
        have R3 := Lib.hid hR3
        clear hT HMD HB RD hR3
        generalize upd S o.tenant.data.toList (some (putF most o.rev o.question.data.toList o.yes (atF o.rev (S o.tenant.data.toList)))) = S3 at *
        obtain ⟨d0, d1, d2, d3, d4⟩ := HC.out w3 hM3.below
        have M3 := Lib.hid hM3
        clear hM3
        go_wp2_with fail
        refine (Len_calls R3.out o.tenant s1).mono ?_
        rintro e w4 ⟨he, rfl⟩
        obtain ⟨z, hz⟩ : ∃ z, lenF (S3 o.tenant.data.toList) = z := ⟨_, rfl⟩
        have hl := hB3.out.len o.tenant.data.toList
        rw [hz] at he hl
        clear hz
        obtain rfl : e = .returned (.int .i64 z) := he
        obtain ⟨l1, l2, l3⟩ := hl
        have hrel : ∃ (k' : Nat) (S : Nm → Option Tn) (tag : Nat → Option Tag) (pm : Nm → Option Nat), k' ≤ n ∧ Value.int .i64 ((k : Int) + 1) = .int .i64 k' ∧ Rep w4 cb most (2 * k') tag mb pm S ∧ Bd most S ∧ Mine w w4 tag :=
          ⟨k + 1, S3, tag3, pm3, by omega, by go_num, R3.out, hB3.out, M3.out⟩
        have HREL := Lib.hid hrel
        clear hrel
        by_cases hz : z = 0
        · subst hz
          clear l1 l2 l3
          go_wp2
          all_goals exact ⟨HREL.out, by simp [intOf]; omega⟩
        · have f1 : ¬ most < 1 := fun h => hz (l3 h)
          have f2 : ¬ z < 0 := by omega
          have f3 : ¬ most < z := by have := l2 (by omega); omega
          clear l1 l2 l3
          go_wp2
          all_goals exact ⟨HREL.out, by simp [intOf]; omega⟩
      · go_wp2_with fail
        refine (Drop_calls RR.out ⟨#[122]⟩ (by decide)).mono ?_
        rintro e w3 ⟨tag3, pm3, rfl, hR3, hT⟩
        have hM3 := HM.out.step hT
        clear hT
        go_wp2_with fail
        have a1 : atF rev (upd S [122] none [122]) = (rev, []) := by rw [upd_same]; rfl
        refine (Put_calls hR3 (by omega) ⟨#[122]⟩ (by decide) rev question hq yes (fun h1 => by
          show ((atF rev (upd S [122] none [122])).2.length : Int) ≤ most
          rw [a1]; simp; omega)).mono ?_
        intro e w4 h
        obtain ⟨l, hl, hg⟩ : ∃ l, putF most rev question.data.toList yes (rev, []) = (rev, l) ∧ getF rev question.data.toList (rev, l) = (if most < 1 then (false, false) else (yes, true)) := by
          by_cases hm : most < 1
          · exact ⟨[], by simp [putF, hm], by simp [getF, hm]⟩
          · have h2 : ¬ (most < 1) := hm
            exact ⟨[(question.data.toList, yes)], by simp [putF, hm], by simp [getF, hm]⟩
        obtain ⟨tag4, pm4, rfl, hR4, hT⟩ := h.to (S' := upd S [122] (some (rev, l))) (by
          show upd (upd S [122] none) [122] (some (putF most rev question.data.toList yes (atF rev (upd S [122] none [122])))) = _
          rw [a1, upd_upd, hl]) rfl
        have hM4 := hM3.step hT
        clear hT hM3 hR3 h a1 hl
        go_wp2_with fail
        have a2 : atF rev (upd S [122] (some (rev, l)) [122]) = (rev, l) := by rw [upd_same]; simp [atF]
        refine (Get_calls hR4 (by omega) ⟨#[122]⟩ (by decide) rev question hq).mono ?_
        intro e w5 h
        obtain ⟨tag5, pm5, rfl, hR5, hT⟩ := h.to (v' := .tuple #[.bool (if most < 1 then (false, false) else (yes, true)).1, .bool (if most < 1 then (false, false) else (yes, true)).2]) rfl (by
          show Value.tuple #[.bool (getF rev question.data.toList (atF rev (upd S [122] (some (rev, l)) [122]))).1, .bool (getF rev question.data.toList (atF rev (upd S [122] (some (rev, l)) [122]))).2] = _
          rw [a2, hg])
        have hM5 := hM4.step hT
        clear hT hM4 hR4 hR5 h a2 hg
        have hb5 := hM5.below
        clear hM5
        by_cases hm : most < 1
        · simp only [hm, if_true]
          have h2 : ¬ 1 ≤ most := by omega
          go_wp2
          go_ret
          exact ⟨rfl, hb5⟩
        · simp only [hm, if_false]
          have h2 : 1 ≤ most := by omega
          cases yes
          · go_wp2
            go_ret
            exact ⟨rfl, hb5⟩
          · go_wp2
            go_ret
            exact ⟨rfl, hb5⟩
end Go.Proofs.Ytfmekhebdpjdkaa.C

/-
  The document's cache: Get.
-/
import Derived.Test.YtfmekhebdpjdkaaCacheP
namespace Go.Proofs.Ytfmekhebdpjdkaa.C
open Go.RowKit Go.Proofs.Ytfmekhebdpjdkaa.B
set_option linter.unusedVariables false
set_option linter.unusedSimpArgs false

theorem lookup_at {q : Nm} : ∀ {l : List (Nm × Bool)} {i : Nat} {p : Nm × Bool}, (l.take i).lookup q = none → l[i]? = some p → p.1 = q → l.lookup q = some p.2
  | [], i, p, _, h, _ => by simp at h
  | (a, b) :: l, 0, p, _, h, e => by
    simp at h; subst h
    simp only at e
    simp [List.lookup_cons, e]
  | (a, b) :: l, i + 1, p, h, hp, e => by
    rw [List.take_succ_cons, List.lookup_cons] at h
    cases hq : q == a with
    | true => rw [hq] at h; cases h
    | false =>
      rw [hq] at h
      rw [List.lookup_cons, hq]
      exact lookup_at h (by simpa using hp) e
theorem lookup_step {q : Nm} : ∀ {l : List (Nm × Bool)} {i : Nat} {p : Nm × Bool}, (l.take i).lookup q = none → l[i]? = some p → p.1 ≠ q → (l.take (i + 1)).lookup q = none
  | [], i, p, _, h, _ => by simp at h
  | (a, b) :: l, 0, p, _, h, e => by
    simp at h; subst h
    have : (q == a) = false := by simpa using fun h => e h.symm
    simp [List.lookup_cons, this]
  | (a, b) :: l, i + 1, p, h, hp, e => by
    rw [List.take_succ_cons, List.lookup_cons] at h ⊢
    cases hq : q == a with
    | true => rw [hq] at h; cases h
    | false =>
      rw [hq] at h
      exact lookup_step h (by simpa using hp) e
def RPost (w : World) (rb : Nat) (most : Int) (N : Nat) (tag : Nat → Option Tag) (S' : Nm → Option Tn) (v : Value) (e : Ending) (w' : World) : Prop :=
  ∃ tag' tv' names' pt', e = .returned v ∧ RepR w' rb most N tag' tv' names' pt' S' ∧ TStep w tag w' tag'
theorem RPost.drew {w : World} {rb : Nat} {most : Int} {N : Nat} {tag : Nat → Option Tag} {S' : Nm → Option Tn} {v : Value} {e : Ending} {w' : World} (h : RPost w rb most N tag S' v e w') (n : Nat) : RPost w rb most N tag S' v e (w'.drewN n) := by
  obtain ⟨tag', tv', names', pt', h1, h2, h3⟩ := h
  exact ⟨tag', tv', names', pt', h1, h2.kept (fun _ _ => rfl) (Nat.le_refl _), h3.1.drew n, h3.2⟩
theorem RPost.mono {w : World} {rb : Nat} {most : Int} {N N' : Nat} {tag : Nat → Option Tag} {S' : Nm → Option Tn} {v : Value} {e : Ending} {w' : World} (h : RPost w rb most N tag S' v e w') (hN : N ≤ N') : RPost w rb most N' tag S' v e w' := by
  obtain ⟨tag', tv', names', pt', h1, h2, h3⟩ := h
  exact ⟨tag', tv', names', pt', h1, h2.mono hN, h3⟩
set_option maxRecDepth 100000 in
set_option maxHeartbeats 1000000 in
theorem RGet_calls {w : World} {rb : Nat} {most : Int} {N : Nat} {tag : Nat → Option Tag} {tv : Value} {names : List Nm} {pt : Nm → Nat} {S : Nm → Option Tn} (h : RepR w rb most N tag tv names pt S) (hN : N < 100000) (s : ByteArray) (rev : Int) (q : ByteArray) :
    Calls Try.prog 10 #[.pointer (some ⟨rb, 0, none⟩), .string s, .int .i64 rev, .string q] w
      (RPost w rb most (N + 1) tag (upd S s.data.toList (some (atF rev (S s.data.toList)))) (.tuple #[.bool (getF rev q.data.toList (atF rev (S s.data.toList))).1, .bool (getF rev q.data.toList (atF rev (S s.data.toList))).2])) := by
  have hat := rat_calls h hN s rev
  obtain ⟨x, hx⟩ : ∃ x, atF rev (S s.data.toList) = x := ⟨_, rfl⟩
  rw [hx] at hat ⊢
  clear hx
  have HAT := Lib.hid hat
  obtain ⟨ga, hga⟩ : ∃ ga, getF rev q.data.toList x = ga := ⟨_, rfl⟩
  rw [hga]
  have HGA := Lib.hid hga
  clear hat h hga
  go_enter Try.func10, Try.ntmps10
  go_wp2_with fail
  refine HAT.out.mono ?_
  clear HAT
  rintro e w1 ⟨tag1, tv1, names1, pt1, rfl, hR, hT, hmem⟩
  obtain ⟨lv, hp⟩ := hR.parts _ x (upd_same _ _ _)
  obtain ⟨p1, p2, p3, p4, p5⟩ := hp
  obtain ⟨la, lc, rfl⟩ := p4.form
  generalize pt1 s.data.toList = tb at *
  have k1 := cells_of p3 1 (.int .i64 x.1) rfl
  have k2 := cells_of p3 2 (.slice la x.2.length lc) rfl
  have HQ := Lib.hid p4
  have HP := Lib.hid (show RPost w rb most (N + 1) tag (upd S s.data.toList (some x)) (.tuple #[.bool ga.1, .bool ga.2]) (.returned (.tuple #[.bool ga.1, .bool ga.2])) w1 from ⟨tag1, tv1, names1, pt1, rfl, hR, hT⟩)
  obtain ⟨x1, l⟩ := x
  simp only at k1 k2 HQ p5
  clear p1 p2 p3 p4 hR hT hmem
  by_cases hr : x1 = rev
  · have r1 : (rev == x1) = true := beq_iff_eq.2 hr.symm
    have HR := Lib.hid hr
    clear hr
    go_wp2
    go_loop [11] (fun v11 => ∃ i : Nat, i ≤ l.length ∧ v11 = .int .i64 (i : Int) ∧ (l.take i).lookup q.data.toList = none) (fun v11 => l.length - (intOf v11).toNat)
    case atStart => exact ⟨0, Nat.zero_le _, rfl, by simp⟩
    case round =>
      obtain ⟨i, hi, rfl, hno⟩ := hrel
      by_cases hlt : i < l.length
      · obtain ⟨p, hp⟩ : ∃ p, l[i]? = some p := ⟨l[i], List.getElem?_eq_getElem hlt⟩
        obtain ⟨h1, h2⟩ := cellsL_get l i p hp
        obtain ⟨g, off, rfl, c1', c2, _⟩ := HQ.out.get2 hlt h1 h2
        have c1 : w1.cell? ⟨g, off + i * 2, none⟩ = some (.string ⟨p.1.toArray⟩) := c1'
        clear c1'
        have i0 : (0 : Int) ≤ (i : Int) := by omega
        have i1 : (i : Int) < (l.length : Int) := by omega
        clear h1 h2
        by_cases he : p.1 = q.data.toList
        · have t1 := vs_eq he
          have hg : ga = (p.2, true) := by
            rw [← HGA.out]
            unfold getF
            rw [if_pos HR.out, lookup_at hno hp he]
            rfl
          subst hg
          clear hno hp he
          go_wp2
          go_ret2
          exact HP.out
        · have t1 := vs_neq he
          have hno2 := lookup_step hno hp he
          clear hno hp he
          go_wp2
          exact ⟨⟨i + 1, by omega, by go_num, hno2⟩, by simp [intOf]; omega⟩
      · have hg : ga = (false, false) := by
          rw [← HGA.out]
          unfold getF
          rw [List.take_of_length_le (by omega)] at hno
          rw [if_pos HR.out, hno]
          rfl
        subst hg
        clear hno
        go_wp2
        go_ret2
        exact HP.out
  · have r1 : (rev == x1) = false := beq_eq_false_iff_ne.2 fun e => hr e.symm
    have hg : ga = (false, false) := by
      rw [← HGA.out]; unfold getF; rw [if_neg hr]
    subst hg
    clear hr
    go_wp2
    go_loop [11] (fun v11 => v11 = .int .i64 0) (fun v11 => 0)
    case atStart => exact rfl
    case round =>
      obtain rfl := hrel
      by_cases hlt : (0 : Int) < (l.length : Int)
      · go_wp2
        go_ret2
        exact HP.out
      · go_wp2
        go_ret2
        exact HP.out
end Go.Proofs.Ytfmekhebdpjdkaa.C

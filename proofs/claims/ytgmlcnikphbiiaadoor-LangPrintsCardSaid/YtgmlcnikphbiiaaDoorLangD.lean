/-
  The parser's tokens: has, must, name, fails.
-/
import Derived.Test.YtgmlcnikphbiiaaDoorLangC
namespace Go.Proofs.YtgmlcnikphbiiaaDoor.L
open Go.RowKit Go.Proofs.YtgmlcnikphbiiaaDoor.B
open Go.Proofs.YtgmlcnikphbiiaaDoor.C (QRow Turn)
open Go.Proofs.YtgmlcnikphbiiaaDoor.S10 (nameB)
open Go.Proofs.YtgmlcnikphbiiaaDoor.Nm (nameB_no nameB_size_no Name_calls refName_calls)
set_option linter.unusedVariables false
set_option linter.unusedSimpArgs false

structure Dg where
  line : Int
  col : Int
  e : Int
abbrev R (α : Type) := Except Dg (α × List Tk)
def dgAgg (d : Dg) : Value := .agg #[.int .i64 d.line, .int .i64 d.col, .int .i64 d.e]
def dgChain (d : Dg) : List PanicEntry := [{ v := .iface 28 (dgAgg d), recovered := false }]
def Tk.fail {α : Type} (t : Tk) (e : Int) : R α := .error ⟨t.line, t.col, e⟩
def failsL {α : Type} (e : Int) : List Tk → R α
  | [] => .error ⟨0, 0, e⟩
  | t :: _ => t.fail e
def hasS (s : Bs) : List Tk → Bool × List Tk
  | [] => (false, [])
  | t :: l => if t.s == s then (true, l) else (false, t :: l)
theorem hasS_cons (s : Bs) (t : Tk) (l : List Tk) : hasS s (t :: l) = if t.s == s then (true, l) else (false, t :: l) := rfl
def nm (q : Bs) : Bool := nameB ⟨q.toArray⟩
def nameS : List Tk → R Bs
  | [] => failsL 8 []
  | t :: l => if nm t.s then .ok (t.s, l) else failsL 8 (t :: l)
def mustS (s : Bs) (L : List Tk) : R Unit := if (hasS s L).1 then .ok ((), (hasS s L).2) else failsL 8 (hasS s L).2
/-- how a call on the parser ends, by the plain reading. -/
def Ends {α : Type} (pb : Nat) (op : Int) (w : World) (V : World → α → Ending → Prop) (r : R α) (e : Ending) (w' : World) : Prop :=
  At pb w w' ∧ match r with
  | .ok (a, L) => V w' a e ∧ PS w' pb op L
  | .error d => e = .panicked (dgChain d)
theorem PS.kept {w w' : World} {pb : Nat} {op : Int} {L : List Tk} (h : PS w pb op L) (hb : w'.heap[pb]? = w.heap[pb]?) : PS w' pb op L := by
  obtain ⟨r, line, col, t, l', h1, h2, h3⟩ := h
  exact ⟨r, line, col, t, l', h1, h2.kept hb, h3⟩
theorem PS.lt {w : World} {pb : Nat} {op : Int} {L : List Tk} (h : PS w pb op L) : pb < w.heap.size := by
  obtain ⟨r, line, col, t, l', h1, h2, h3⟩ := h
  exact h2.lt
theorem shown_beq {q s : Bs} (h0 : s ≠ []) (h1 : s ≠ [63]) : (shown q == s) = (q == s) := by
  unfold shown
  split
  · rename_i h
    have := eq_of_beq h
    subst this
    have e1 : (([] : Bs) == s) = false := by
      cases s with
      | nil => exact absurd rfl h0
      | cons a l => rfl
    have e2 : (([63] : Bs) == s) = false := by
      cases hb : ([63] : Bs) == s
      · rfl
      · exact absurd (eq_of_beq hb).symm h1
    rw [e1, e2]
  · rfl
theorem nm_nil : nm [] = false := nameB_size_no (.inl rfl)
theorem nm_q : nm [63] = false := nameB_no (s := ⟨#[63]⟩) (k := 0) (by decide) (by decide)
theorem nm_shown (q : Bs) : nm (shown q) = nm q := by
  unfold shown
  split
  · rename_i h
    rw [eq_of_beq h, nm_nil, nm_q]
  · rfl
/-- the token is one: the next ones stand behind it. -/
theorem PS.split {w : World} {pb : Nat} {op : Int} {L : List Tk} (h : PS w pb op L) : ∃ (r : Bs) (line col : Int) (t : Tk) (l' : List Tk), L = t :: l' ∧ Blk w pb r line col (shown t.s) t.line t.col op ∧ Room r line col ∧ t.s.length ≤ 4096 ∧
    (t.s ≠ [] → t.s ≠ [63] → l' = tokens r line col) ∧ ((t.s = [] ∨ t.s = [63]) → l' = []) ∧ (t.s = [] → r = []) ∧ (t.s = [63] → r ≠ []) ∧ t.s ≠ [43, 45] := by
  obtain ⟨r, line, col, t, l', h1, h2, h3, h4, h5, h6⟩ := h
  refine ⟨r, line, col, t, l', h1, h2, h4, h5, fun a b => ?_, fun a => ?_, fun a => ?_, fun a => ?_, h6⟩
  · rcases h3 with h3 | h3 | h3
    · exact absurd h3.1 a
    · exact absurd h3.1 b
    · exact h3.2.2
  · rcases h3 with h3 | h3 | h3
    · exact h3.2.2
    · exact h3.2.2
    · rcases a with a | a
      · exact absurd a h3.1
      · exact absurd a h3.2.1
  · rcases h3 with h3 | h3 | h3
    · exact h3.2.1
    · rw [a] at h3; cases h3.1
    · exact absurd a h3.1
  · rcases h3 with h3 | h3 | h3
    · rw [a] at h3; cases h3.1
    · exact h3.2.1
    · exact absurd a h3.2.1
set_option maxRecDepth 100000 in
set_option maxHeartbeats 1000000 in
theorem has_calls {w : World} {pb : Nat} {op : Int} {L : List Tk} (h : PS w pb op L) (s : ByteArray) (q : Bs) (hs : s = ⟨q.toArray⟩) (h0 : q ≠ []) (h1 : q ≠ [63]) :
    Calls Tryd.prog 48 #[.pointer (some ⟨pb, 0, none⟩), .string s] w
      fun e w' => e = .returned (.bool (hasS q L).1) ∧ PS w' pb op (hasS q L).2 ∧ At pb w w' := by
  subst hs
  have HP := Lib.hid h
  obtain ⟨r, line, col, t, l', rfl, hB, hr, hl, hn, -⟩ := h.split
  have g3 := cells_of hB 3 (vs (shown t.s)) rfl
  have HB := Lib.hid hB
  have HR := Lib.hid hr
  have hsh := shown_beq (q := t.s) h0 h1
  unfold vs at g3
  cases hb : t.s == q with
  | true =>
    have hq := eq_of_beq hb
    have HN := Lib.hid (hn (hq ▸ h0) (hq ▸ h1))
    rw [hb] at hsh
    have hh : hasS q (t :: l') = (true, l') := by rw [hasS_cons, hb]; rfl
    rw [hh]
    clear h hB hr hn hb hq hh h0 h1
    go_enter Tryd.func48, Tryd.ntmps48
    go_wp2_with fail
    refine (step_calls HB.out HR.out).mono ?_
    rintro e w' ⟨rfl, hP, hA⟩
    rw [← HN.out] at hP
    go_wp2
    go_ret
    exact ⟨rfl, hP, hA⟩
  | false =>
    rw [hb] at hsh
    have hh : hasS q (t :: l') = (false, t :: l') := by rw [hasS_cons, hb]; rfl
    rw [hh]
    clear h hB hr hn hb hh h0 h1
    go_enter Tryd.func48, Tryd.ntmps48
    go_wp2
    go_ret
    exact ⟨rfl, HP.out, At.refl _ _⟩
set_option maxRecDepth 100000 in
set_option maxHeartbeats 1000000 in
theorem fails_calls (s : Value) (d : Dg) (w : World) (hs : ∃ q, s = .string q) :
    Calls Tryd.prog 51 #[.agg #[s, .int .i64 d.line, .int .i64 d.col], .int .i64 d.e] w
      fun e w' => e = .panicked (dgChain d) ∧ Below w.heap.size w w' := by
  obtain ⟨q, rfl⟩ := hs
  go_enter Tryd.func51, Tryd.ntmps51
  go_wp2
  exact ⟨rfl, rfl, (Below.refl _ w).alloc (Nat.le_refl _) _⟩
set_option maxRecDepth 100000 in
set_option maxHeartbeats 1000000 in
theorem must_calls {w : World} {pb : Nat} {op : Int} {L : List Tk} (h : PS w pb op L) (s : ByteArray) (q : Bs) (hs : s = ⟨q.toArray⟩) (h0 : q ≠ []) (h1 : q ≠ [63]) :
    Calls Tryd.prog 71 #[.pointer (some ⟨pb, 0, none⟩), .string s] w (Ends pb op w (fun _ _ e => e = .returned (.tuple #[])) (mustS q L)) := by
  have hH := has_calls h s q hs h0 h1
  unfold mustS
  generalize hasS q L = bl at *
  obtain ⟨b, L'⟩ := bl
  dsimp only at hH ⊢
  have HH := Lib.hid hH
  clear hH h hs h0 h1
  go_enter Tryd.func71, Tryd.ntmps71
  go_wp2_with fail
  refine HH.out.mono ?_
  clear HH
  rintro e w1 ⟨rfl, hP, hA⟩
  cases b with
  | true =>
    go_wp2
    refine bodyPost_end (results_none rfl _ _ _) rfl ?_
    exact ⟨hA, rfl, hP⟩
  | false =>
    obtain ⟨r, line, col, t, l', rfl, hB, -⟩ := hP.split
    have g3 := cells_of hB 3 (vs (shown t.s)) rfl
    have g4 := cells_of hB 4 (.int .i64 t.line) rfl
    have g5 := cells_of hB 5 (.int .i64 t.col) rfl
    have HA := Lib.hid hA
    clear hB hP hA
    go_wp2_with fail
    refine (fails_calls (vs (shown t.s)) ⟨t.line, t.col, 8⟩ w1 ⟨_, rfl⟩).mono ?_
    rintro e w2 ⟨rfl, hb⟩
    exact ⟨rfl, HA.out.below hb, rfl⟩
set_option maxRecDepth 100000 in
set_option maxHeartbeats 1000000 in
theorem name_calls {w : World} {pb : Nat} {op : Int} {L : List Tk} (h : PS w pb op L) :
    Calls Tryd.prog 49 #[.pointer (some ⟨pb, 0, none⟩)] w (Ends pb op w (fun _ a e => e = .returned (vs a)) (nameS L)) := by
  have HP := Lib.hid h
  obtain ⟨r, line, col, t, l', rfl, hB, hr, hl, hn, -⟩ := h.split
  have g3 := cells_of hB 3 (vs (shown t.s)) rfl
  have g4 := cells_of hB 4 (.int .i64 t.line) rfl
  have g5 := cells_of hB 5 (.int .i64 t.col) rfl
  have HB := Lib.hid hB
  have HR := Lib.hid hr
  have hsz : (⟨(shown t.s).toArray⟩ : ByteArray).size ≤ 9223372036854775807 := by
    rw [sz]
    unfold shown
    split
    · simp
    · omega
  have HS := Lib.hid hsz
  have HN := Lib.hid hn
  have HL := Lib.hid hl
  clear h hB hr hn hsz hl
  have hnm : nameB ⟨(shown t.s).toArray⟩ = nm t.s := nm_shown t.s
  have HNM := Lib.hid hnm
  clear hnm
  unfold vs at g3
  go_enter Tryd.func49, Tryd.ntmps49
  go_wp2_with fail
  refine (Name_calls ⟨(shown t.s).toArray⟩ w HS.out).mono ?_
  rintro e w1 ⟨rfl, rfl⟩
  rw [HNM.out]
  obtain ⟨b, hb⟩ : ∃ b, nm t.s = b := ⟨_, rfl⟩
  have hS : nameS (t :: l') = if b then .ok (t.s, l') else failsL 8 (t :: l') := by rw [← hb]; rfl
  rw [hb]
  have HBB := Lib.hid hb
  have HSS := Lib.hid hS
  clear hb hS
  cases b with
  | true =>
    have hne : t.s ≠ [] := fun e => by have := HBB.out; rw [e, nm_nil] at this; cases this
    have hnq : t.s ≠ [63] := fun e => by have := HBB.out; rw [e, nm_q] at this; cases this
    have hl' := HN.out hne hnq
    have HL' := Lib.hid hl'
    have hsh : shown t.s = t.s := by
      unfold shown
      rw [if_neg]
      intro e
      exact hnq (eq_of_beq e)
    have HSH := Lib.hid hsh
    clear hl' hne hnq hsh
    go_wp2_with fail
    refine (step_calls HB.out HR.out).mono ?_
    rintro e w' ⟨rfl, hP, hA⟩
    rw [← HL'.out] at hP
    go_wp2
    go_ret
    rw [HSS.out, HSH.out]
    exact ⟨hA, rfl, hP⟩
  | false =>
    go_wp2_with fail
    refine (fails_calls (vs (shown t.s)) ⟨t.line, t.col, 8⟩ w ⟨_, rfl⟩).mono ?_
    rintro e w2 ⟨rfl, hb⟩
    refine ⟨rfl, ?_⟩
    rw [HSS.out]
    exact ⟨(At.refl _ _).below hb, rfl⟩
end Go.Proofs.YtgmlcnikphbiiaaDoor.L

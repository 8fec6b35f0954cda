/-
  The document's reader of JSON: its block, next, fail, space, must, word, digits.
-/
import Derived.Test.YtminegmjklehnaaGreatDoorJsonR
import Derived.Test.YtminegmjklehnaaGreatDoorJsonE
import Derived.StillTailTactics
import Derived.IntWalk
namespace Go.Proofs.YtminegmjklehnaaGreatDoor.J
open Go.RowKit Go.Proofs.YtminegmjklehnaaGreatDoor.B
open Go.Proofs.YtminegmjklehnaaGreatDoor.M hiding Bs
open Go.Proofs.YtminegmjklehnaaGreatDoor.C (QRow Turn)
set_option linter.unusedVariables false
set_option linter.unusedSimpArgs false

def ByR (x : UInt8) (cs : List Value) : Prop := cs = [.int .u8 (x.toNat : Int)]
theorem by_cell {w : World} {F : Nat → Prop} {l : Bs} {A : Option Addr} {n : Nat} (h : SlV w F 1 ByR l A n) {j : Nat} {x : UInt8} (hx : l[j]? = some x) : ∃ a p, A = some a ∧ a.add j = p ∧ F p.block ∧ w.cell? p = some (.int .u8 (x.toNat : Int)) := by
  obtain ⟨a, b, cs, h1, h2, h3, h4, h5, h6⟩ := h.2.2 j x hx
  have h6 : cs = [.int .u8 (x.toNat : Int)] := h6
  subst h6
  have := h5 0 _ rfl
  rw [add_zero] at this
  rw [Nat.mul_one] at h2
  exact ⟨a, b, h1, h2, h3, this⟩
/-- the reader's block. -/
def R0 (w : World) (rb : Nat) (b : Bs) (at_ : Nat) (e : Int) : Prop :=
  ∃ A c, w.heap[rb]? = some (.cells #[.slice A b.length c, .int .i64 at_, .int .i64 e] 52 (0, 0)) ∧ SlV w (fun g => g < rb) 1 ByR b A b.length ∧ at_ ≤ b.length ∧ b.length ≤ 100000 ∧ b.length ≤ c
theorem R0.kept {w w' : World} {rb : Nat} {b : Bs} {at_ : Nat} {e : Int} (h : R0 w rb b at_ e) (hA : At rb w w') (hb : w'.heap[rb]? = w.heap[rb]?) : R0 w' rb b at_ e := by
  obtain ⟨A, c, h1, h2, h3⟩ := h
  exact ⟨A, c, hb.trans h1, h2.keep (by decide) (fun _ h _ => h) (turn_cell hA (fun b hb _ e => by omega)) (fun _ _ h => h), h3⟩
theorem R0.lt {w : World} {rb : Nat} {b : Bs} {at_ : Nat} {e : Int} (h : R0 w rb b at_ e) : rb < w.heap.size := by
  obtain ⟨A, c, h1, _⟩ := h
  exact lt_of_heap h1
theorem R0.below {w w' : World} {rb : Nat} {b : Bs} {at_ : Nat} {e : Int} (h : R0 w rb b at_ e) (hb : Below w.heap.size w w') : R0 w' rb b at_ e := h.kept (at_below hb) (hb.block _ h.lt)
theorem R0.goes {w : World} {rb : Nat} {b : Bs} {at_ : Nat} {e : Int} (h : R0 w rb b at_ e) (k : Nat) (hk : k ≤ b.length) : R0 (w.setCell ⟨rb, 1, none⟩ (.int .i64 (k : Int))) rb b k e ∧ At rb w (w.setCell ⟨rb, 1, none⟩ (.int .i64 (k : Int))) := by
  obtain ⟨A, c, g, hs, h1, h2⟩ := h
  have hA := at_set w rb 1 (.int .i64 (k : Int))
  exact ⟨⟨A, c, heap_setCell_same w rb 1 _ _ _ g, hs.keep (by decide) (fun _ h _ => h) (turn_cell hA (fun b hb _ e => by omega)) (fun _ _ h => h), hk, h2⟩, hA⟩
theorem R0.fails {w : World} {rb : Nat} {b : Bs} {at_ : Nat} {e : Int} (h : R0 w rb b at_ e) (d : Int) : R0 (w.setCell ⟨rb, 2, none⟩ (.int .i64 d)) rb b at_ d ∧ At rb w (w.setCell ⟨rb, 2, none⟩ (.int .i64 d)) := by
  obtain ⟨A, c, g, hs, h1, h2⟩ := h
  have hA := at_set w rb 2 (.int .i64 d)
  exact ⟨⟨A, c, heap_setCell_same w rb 2 _ _ _ g, hs.keep (by decide) (fun _ h _ => h) (turn_cell hA (fun b hb _ e => by omega)) (fun _ _ h => h), h1, h2⟩, hA⟩
/-- what is left, or what is wrong. -/
abbrev St := Except Int Bs
def RS (w : World) (rb : Nat) (b : Bs) : St → Prop
  | .ok L => ∃ k : Nat, R0 w rb b k 0 ∧ b.drop k = L
  | .error d => d ≠ 0 ∧ ∃ k : Nat, R0 w rb b k d
theorem RS.kept {w w' : World} {rb : Nat} {b : Bs} {s : St} (h : RS w rb b s) (hA : At rb w w') (hb : w'.heap[rb]? = w.heap[rb]?) : RS w' rb b s := by
  cases s with
  | ok L => obtain ⟨k, h1, h2⟩ := h; exact ⟨k, h1.kept hA hb, h2⟩
  | error d => obtain ⟨h0, k, h1⟩ := h; exact ⟨h0, k, h1.kept hA hb⟩
theorem RS.lt {w : World} {rb : Nat} {b : Bs} {s : St} (h : RS w rb b s) : rb < w.heap.size := by
  cases s with
  | ok L => obtain ⟨k, h1, h2⟩ := h; exact h1.lt
  | error d => obtain ⟨h0, k, h1⟩ := h; exact h1.lt
theorem RS.below {w w' : World} {rb : Nat} {b : Bs} {s : St} (h : RS w rb b s) (hb : Below w.heap.size w w') : RS w' rb b s := h.kept (at_below hb) (hb.block _ h.lt)
theorem RS.small {w : World} {rb : Nat} {b : Bs} {s : St} (h : RS w rb b s) : b.length ≤ 100000 := by
  cases s with
  | ok L => obtain ⟨k, ⟨A, c, _, _, _, h4, _⟩, h2⟩ := h; exact h4
  | error d => obtain ⟨h0, k, ⟨A, c, _, _, _, h4, _⟩⟩ := h; exact h4
theorem RS.len {w : World} {rb : Nat} {b L : Bs} (h : RS w rb b (.ok L)) : L.length ≤ 100000 := by
  have h1 := h.small
  obtain ⟨k, _, rfl⟩ := h
  rw [List.length_drop]; omega
/-- the next byte; 0: none. -/
def headV : St → Int
  | .ok (c :: _) => (c.toNat : Int)
  | _ => 0
theorem headV_lt (s : St) : 0 ≤ headV s ∧ headV s < 256 := by
  unfold headV
  split
  · rename_i c _
    have := c.toNat_lt
    omega
  · omega
theorem drop_cons {α : Type} {b : List α} {k : Nat} {c : α} {L : List α} (h : b.drop k = c :: L) : k < b.length ∧ b[k]? = some c ∧ b.drop (k + 1) = L := by
  have hk : k < b.length := by
    rcases Nat.lt_or_ge k b.length with h1 | h1
    · exact h1
    · rw [List.drop_eq_nil_of_le h1] at h; cases h
  rw [List.drop_eq_getElem_cons hk] at h
  injection h with h1 h2
  exact ⟨hk, by rw [List.getElem?_eq_getElem hk, h1], h2⟩
def NRet (w : World) (rb : Nat) (b : Bs) (s : St) (e : Ending) (w' : World) : Prop := e = .returned (.int .u8 (headV s)) ∧ RS w' rb b s ∧ Below w.heap.size w w'
set_option maxRecDepth 100000 in
set_option maxHeartbeats 2000000 in
theorem next_calls {w : World} {rb : Nat} {b : Bs} {s : St} (h : RS w rb b s) : Calls Tryz.prog 48 #[.pointer (some ⟨rb, 0, none⟩)] w (NRet w rb b s) := by
  have HR := Lib.hid h
  cases s with
  | error d =>
    obtain ⟨h0, k, A, c, hg, hs, hk, hl, hc⟩ := h
    obtain ⟨g0, g1, g2⟩ := three_of hg
    have e1 : (d == 0) = false := beq_eq_false_iff_ne.2 h0
    have e2 : (d != 0) = true := bne_iff_ne.2 h0
    clear hg hs h0
    by_cases hkl : k < b.length
    · have hkl' : (k : Int) < (b.length : Int) := by omega
      go_enter Tryz.func48, Tryz.ntmps48
      go_wp2_with fail
      go_quiet (fail)
      go_wp2
      go_ret
      exact ⟨rfl, HR.out.below (below_drewN (Below.refl _ _) _), below_drewN (Below.refl _ _) _⟩
    · have hkl' : (b.length : Int) ≤ (k : Int) := by omega
      go_enter Tryz.func48, Tryz.ntmps48
      go_wp2_with fail
      go_quiet (fail)
      go_wp2
      go_ret
      exact ⟨rfl, HR.out.below (below_drewN (Below.refl _ _) _), below_drewN (Below.refl _ _) _⟩
  | ok L =>
    obtain ⟨k, ⟨A, c, hg, hs, hk, hl, hc⟩, hd⟩ := h
    obtain ⟨g0, g1, g2⟩ := three_of hg
    cases L with
    | nil =>
      have hkl' : (b.length : Int) ≤ (k : Int) := by
        have := congrArg List.length hd
        rw [List.length_drop] at this
        simp at this
        omega
      clear hg hs hd
      go_enter Tryz.func48, Tryz.ntmps48
      go_wp2_with fail
      go_quiet (fail)
      go_wp2
      go_ret
      exact ⟨rfl, HR.out.below (below_drewN (Below.refl _ _) _), below_drewN (Below.refl _ _) _⟩
    | cons x L =>
      obtain ⟨hkl, hx, -⟩ := drop_cons hd
      have hkl' : (k : Int) < (b.length : Int) := by omega
      obtain ⟨ad, p, rfl, hp, -, d0⟩ := by_cell hs hx
      clear hg hs hd hx
      go_enter Tryz.func48, Tryz.ntmps48
      go_wp2_with fail
      go_quiet (fail)
      go_wp2_with fail
      go_quiet (fail)
      go_wp2
      go_ret
      exact ⟨rfl, HR.out.below (below_drewN (below_drewN (Below.refl _ _) _) _), below_drewN (below_drewN (Below.refl _ _) _) _⟩
/-- the first thing that is wrong stays. -/
def failS (d : Int) : St → St
  | .ok _ => .error d
  | .error e => .error e
def SRet (w : World) (rb : Nat) (b : Bs) (s' : St) (e : Ending) (w' : World) : Prop := e = .returned (.tuple #[]) ∧ RS w' rb b s' ∧ At rb w w'
set_option maxRecDepth 100000 in
set_option maxHeartbeats 2000000 in
theorem fail_calls {w : World} {rb : Nat} {b : Bs} {s : St} (h : RS w rb b s) {d : Int} (hd : d ≠ 0) : Calls Tryz.prog 33 #[.pointer (some ⟨rb, 0, none⟩), .int .i64 d] w (SRet w rb b (failS d s)) := by
  have HR := Lib.hid h
  cases s with
  | error d' =>
    obtain ⟨h0, k, A, c, hg, hs, hk, hl, hc⟩ := h
    obtain ⟨g0, g1, g2⟩ := three_of hg
    have e1 : (d' == 0) = false := beq_eq_false_iff_ne.2 h0
    clear hg hs h0
    go_enter Tryz.func33, Tryz.ntmps33
    go_wp2
    refine bodyPost_end (results_none rfl _ _ _) rfl ?_
    exact ⟨rfl, HR.out, At.refl _ _⟩
  | ok L =>
    obtain ⟨k, hr, hdr⟩ := h
    have HF := Lib.hid (hr.fails d)
    obtain ⟨A, c, hg, hs, hk, hl, hc⟩ := hr
    obtain ⟨g0, g1, g2⟩ := three_of hg
    have f2 := frz_of hg 2
    have HD := Lib.hid hd
    clear hg hs hdr hd
    go_enter Tryz.func33, Tryz.ntmps33
    go_wp2
    refine bodyPost_end (results_none rfl _ _ _) rfl ?_
    exact ⟨rfl, ⟨HD.out, k, HF.out.1⟩, HF.out.2⟩
/-- one byte on. -/
theorem RS.step {w : World} {rb : Nat} {b : Bs} {c : UInt8} {L : Bs} (h : RS w rb b (.ok (c :: L))) : ∃ k : Nat, w.cell? ⟨rb, 1, none⟩ = some (.int .i64 (k : Int)) ∧ w.frozen? ⟨rb, 1, none⟩ = false ∧ k < 100000 ∧
    RS (w.setCell ⟨rb, 1, none⟩ (.int .i64 ((k : Int) + 1))) rb b (.ok L) ∧ At rb w (w.setCell ⟨rb, 1, none⟩ (.int .i64 ((k : Int) + 1))) := by
  obtain ⟨k, hr, hd⟩ := h
  obtain ⟨hk, hx, hd'⟩ := drop_cons hd
  have h1 := hr.goes (k + 1) (by omega)
  obtain ⟨A, c, hg, hs, hk', hl, hc⟩ := hr
  have e : ((k + 1 : Nat) : Int) = (k : Int) + 1 := by omega
  rw [e] at h1
  exact ⟨k, cells_of hg 1 _ rfl, frz_of hg 1, by omega, ⟨k + 1, h1.1, hd'⟩, h1.2⟩
theorem At.below' {rb : Nat} {w w1 w2 : World} (h : At rb w w1) (hb : Below w1.heap.size w1 w2) : At rb w w2 := At.trans h (at_below hb)
def stLen : St → Nat
  | .ok L => L.length
  | .error _ => 0
theorem nsp {c : UInt8} (h : isSp c = false) {k : Nat} (hk : (∀ d : UInt8, d.toNat = k → isSp d = true)) : ((c.toNat : Int) == (k : Int)) = false := by
  rw [beq_eq_false_iff_ne]
  intro e
  rw [hk c (by omega)] at h
  cases h
theorem of_nat {d : UInt8} {k : Nat} (h : d.toNat = k) : d = UInt8.ofNat k := by rw [← h]; simp
theorem sp32 : ∀ d : UInt8, d.toNat = 32 → isSp d = true := fun d h => by rw [of_nat h]; decide
theorem sp9 : ∀ d : UInt8, d.toNat = 9 → isSp d = true := fun d h => by rw [of_nat h]; decide
theorem sp10 : ∀ d : UInt8, d.toNat = 10 → isSp d = true := fun d h => by rw [of_nat h]; decide
theorem sp13 : ∀ d : UInt8, d.toNat = 13 → isSp d = true := fun d h => by rw [of_nat h]; decide
def spS : St → St
  | .ok L => .ok (sp L)
  | .error e => .error e
theorem spS_on {c : UInt8} {L : Bs} (h : isSp c = true) : spS (.ok (c :: L)) = spS (.ok L) := by
  show Except.ok (sp (c :: L)) = Except.ok (sp L)
  unfold sp
  rw [List.dropWhile_cons, h]
  rfl
theorem spS_no {c : UInt8} {L : Bs} (h : isSp c = false) : spS (.ok (c :: L)) = .ok (c :: L) := by
  show Except.ok (sp (c :: L)) = _
  unfold sp
  rw [List.dropWhile_cons, h]
  rfl
set_option maxRecDepth 100000 in
set_option maxHeartbeats 4000000 in
theorem rspace_calls {w : World} {rb : Nat} {b : Bs} {s : St} (h : RS w rb b s) : Calls Tryz.prog 31 #[.pointer (some ⟨rb, 0, none⟩)] w (SRet w rb b (spS s)) := by
  have HN := Lib.hid (next_calls h)
  clear h
  go_enter Tryz.func31, Tryz.ntmps31
  go_wp2_with fail
  refine HN.out.mono ?_
  rintro e w1 ⟨rfl, hR, hB⟩
  have HR := Lib.hid hR
  have HA := Lib.hid (at_below (rb := rb) hB)
  clear hR hB HN
  go_wp2_with fail
  go_loopg [2] (stLen s) (fun q v2 wr => ∃ s' : St, v2 = .int .u8 (headV s') ∧ stLen s' = q ∧ Hid (RS wr rb b s') ∧ Hid (At rb w wr) ∧ Hid (spS s' = spS s))
  case atStart => exact ⟨s, rfl, rfl, HR, HA, Lib.hid rfl⟩
  case round =>
    clear HR HA
    obtain ⟨s', rfl, hq, HR, HA, HE⟩ := hrel
    have HQ := Lib.hid hq
    clear hq
    cases s' with
    | error d =>
      have hh : headV (.error d) = 0 := rfl
      rw [hh]
      go_wp2
      refine bodyPost_end (results_none rfl _ _ _) rfl ?_
      exact ⟨rfl, by rw [← HE.out]; exact HR.out, HA.out⟩
    | ok L =>
      cases L with
      | nil =>
        have hh : headV (.ok []) = 0 := rfl
        rw [hh]
        go_wp2
        refine bodyPost_end (results_none rfl _ _ _) rfl ?_
        exact ⟨rfl, by rw [← HE.out]; exact HR.out, HA.out⟩
      | cons c L =>
        have hh : headV (.ok (c :: L)) = (c.toNat : Int) := rfl
        rw [hh]
        cases hsp : isSp c with
        | true =>
          have hc : c = 32 ∨ c = 9 ∨ c = 10 ∨ c = 13 := by unfold isSp at hsp; simpa using hsp
          have HE2 := Lib.hid (show spS (.ok L) = spS s by rw [← HE.out]; exact (spS_on hsp).symm)
          obtain ⟨k, g1, f1, hk, hR, hA⟩ := HR.out.step
          have HA2 := Lib.hid (At.trans HA.out hA)
          have HR2 := Lib.hid hR
          have HN := Lib.hid (next_calls hR)
          have HL := Lib.hid (show L.length < gk by have := HQ.out; unfold stLen at this; simp at this; omega)
          clear hR hA hsp
          rcases hc with rfl | rfl | rfl | rfl
          all_goals
            go_wp2_with fail
            refine HN.out.mono ?_
            rintro e w2 ⟨rfl, hR, hB⟩
            have HR3 := Lib.hid hR
            have HA3 := Lib.hid (At.below' HA2.out hB)
            clear hR hB
            go_wp2
            go_roundg (L.length)
            case measure => exact HL.out
            case rel => exact ⟨.ok L, rfl, rfl, HR3, HA3, HE2⟩
        | false =>
          have t1 : ((c.toNat : Int) == 32) = false := nsp (k := 32) hsp sp32
          have t2 : ((c.toNat : Int) == 9) = false := nsp (k := 9) hsp sp9
          have t3 : ((c.toNat : Int) == 10) = false := nsp (k := 10) hsp sp10
          have t4 : ((c.toNat : Int) == 13) = false := nsp (k := 13) hsp sp13
          have HE2 := Lib.hid (show RS wr rb b (spS s) by
            rw [← HE.out, spS_no hsp]
            exact HR.out)
          clear hsp
          go_wp2
          refine bodyPost_end (results_none rfl _ _ _) rfl ?_
          exact ⟨rfl, HE2.out, HA.out⟩
/-- that byte. -/
def mustS (c : UInt8) : St → St
  | .ok (x :: L) => if x = c then .ok L else .error 3
  | .ok [] => .error 3
  | .error e => .error e
theorem mustS_miss {c : UInt8} (hc : c ≠ 0) {s : St} (h : (headV s == (c.toNat : Int)) = false) : mustS c s = failS 3 s := by
  cases s with
  | error d => rfl
  | ok L =>
    cases L with
    | nil => rfl
    | cons x L =>
      refine if_neg (fun e => ?_)
      subst e
      have h : (((x.toNat : Int)) == (x.toNat : Int)) = false := h
      simp at h
theorem nat_eq {a b : UInt8} (h : (a.toNat : Int) = (b.toNat : Int)) : a = b := UInt8.toNat.inj (by omega)
theorem headV_hit {c : UInt8} (hc : c ≠ 0) {s : St} (h : headV s = (c.toNat : Int)) : ∃ L, s = .ok (c :: L) := by
  have h0 : (c.toNat : Int) ≠ 0 := by
    intro e
    exact hc (nat_eq (by rw [e]; rfl))
  cases s with
  | error d => exact absurd h.symm h0
  | ok L =>
    cases L with
    | nil => exact absurd h.symm h0
    | cons x L => exact ⟨L, by rw [nat_eq h]⟩
set_option maxRecDepth 100000 in
set_option maxHeartbeats 4000000 in
theorem rmust_calls {w : World} {rb : Nat} {b : Bs} {s : St} (h : RS w rb b s) (c : UInt8) (hc : c ≠ 0) (cv : Int) (hcv : cv = (c.toNat : Int)) : Calls Tryz.prog 76 #[.pointer (some ⟨rb, 0, none⟩), .int .u8 cv] w (SRet w rb b (mustS c s)) := by
  have hc0 : (cv == 0) = false := by
    rw [beq_eq_false_iff_ne, hcv]
    intro e
    exact hc (nat_eq (by rw [e]; rfl))
  have hcl := c.toNat_lt
  have HN := Lib.hid (next_calls h)
  have HV := Lib.hid (headV_lt s)
  clear h
  by_cases hh : headV s = cv
  · obtain ⟨L, rfl⟩ := headV_hit hc (hh.trans hcv)
    have he : (headV (.ok (c :: L)) != cv) = false := by rw [hh]; simp
    have HM := Lib.hid (show mustS c (.ok (c :: L)) = .ok L from if_pos rfl)
    clear hh
    go_enter Tryz.func76, Tryz.ntmps76
    go_wp2_with fail
    refine HN.out.mono ?_
    rintro e w1 ⟨rfl, hR, hB⟩
    obtain ⟨k, g1, f1, hk, hR2, hA⟩ := hR.step
    have HR2 := Lib.hid hR2
    have HA2 := Lib.hid (At.trans (at_below hB) hA)
    clear hR hB hR2 hA
    go_wp2
    refine bodyPost_end (results_none rfl _ _ _) rfl ?_
    exact ⟨rfl, by rw [HM.out]; exact HR2.out, HA2.out⟩
  · have he : (headV s != cv) = true := bne_iff_ne.2 hh
    have HM := Lib.hid (mustS_miss hc (s := s) (by rw [beq_eq_false_iff_ne, ← hcv]; exact hh))
    clear hh
    go_enter Tryz.func76, Tryz.ntmps76
    go_wp2_with fail
    refine HN.out.mono ?_
    rintro e w1 ⟨rfl, hR, hB⟩
    have HF := Lib.hid (fail_calls hR (d := 3) (by decide))
    have HA := Lib.hid (at_below (rb := rb) hB)
    clear hR hB
    go_wp2_with fail
    refine HF.out.mono ?_
    rintro e w2 ⟨rfl, hR, hA⟩
    have HR2 := Lib.hid hR
    have HA2 := Lib.hid (At.trans HA.out hA)
    clear hR hA
    go_wp2
    refine bodyPost_end (results_none rfl _ _ _) rfl ?_
    exact ⟨rfl, by rw [HM.out]; exact HR2.out, HA2.out⟩
/-- these bytes, one by one. -/
def wordS : Bs → St → St
  | [], s => s
  | c :: q, s => wordS q (mustS c s)
theorem wordS_err (q : Bs) (d : Int) : wordS q (.error d) = .error d := by
  induction q with
  | nil => rfl
  | cons c q ih => exact ih
theorem wordS_eq : ∀ (q L : Bs), wordS q (.ok L) = if q.isPrefixOf L then .ok (L.drop q.length) else .error 3
  | [], L => rfl
  | c :: q, [] => by
    show wordS q (.error 3) = _
    rw [wordS_err]; rfl
  | c :: q, x :: L => by
    show wordS q (if x = c then .ok L else .error 3) = _
    by_cases h : x = c
    · subst h
      rw [if_pos rfl, wordS_eq q L]
      simp [List.isPrefixOf]
    · rw [if_neg h, wordS_err]
      have : (c == x) = false := by simpa using fun e => h e.symm
      simp [List.isPrefixOf, this]
theorem wordS_snoc (q : Bs) (c : UInt8) (s : St) : wordS (q ++ [c]) s = mustS c (wordS q s) := by
  induction q generalizing s with
  | nil => rfl
  | cons x q ih => exact ih (mustS x s)
set_option maxRecDepth 100000 in
set_option maxHeartbeats 4000000 in
theorem rword_calls {w : World} {rb : Nat} {b : Bs} {s : St} (h : RS w rb b s) (t : ByteArray) (q : Bs) (ht : t = ⟨q.toArray⟩) (hq : q.length ≤ 100) (h0 : ∀ c ∈ q, c ≠ 0) : Calls Tryz.prog 49 #[.pointer (some ⟨rb, 0, none⟩), .string t] w (SRet w rb b (wordS q s)) := by
  subst ht
  have HR := Lib.hid h
  have HQ := Lib.hid h0
  have hsq := sz q
  clear h h0
  go_enter Tryz.func49, Tryz.ntmps49
  go_wp2_with fail
  go_loopw [4] (fun v4 wr => ∃ k : Nat, k ≤ q.length ∧ v4 = .int .i64 k ∧ Hid (RS wr rb b (wordS (q.take k) s)) ∧ Hid (At rb w wr)) (fun v4 _ => q.length - (intOf v4).toNat)
  case atStart => exact ⟨0, Nat.zero_le _, rfl, HR, Lib.hid (At.refl _ _)⟩
  case round =>
    clear HR
    obtain ⟨k, hk, rfl, HR, HA⟩ := hrel
    by_cases hkq : k < q.length
    · obtain ⟨c, hc⟩ : ∃ c, q[k]? = some c := ⟨q[k]'hkq, List.getElem?_eq_getElem hkq⟩
      have hix := idxk hc
      have HM := Lib.hid (rmust_calls HR.out c (HQ.out c (List.mem_of_getElem? hc)) _ rfl)
      have HS := Lib.hid (show mustS c (wordS (q.take k) s) = wordS (q.take (k + 1)) s by rw [List.take_add_one, hc]; exact (wordS_snoc _ _ _).symm)
      clear hc
      go_wp2_with fail
      refine HM.out.mono ?_
      rintro e w1 ⟨rfl, hR, hA⟩
      rw [HS.out] at hR
      have HR2 := Lib.hid hR
      have HA2 := Lib.hid (At.trans HA.out hA)
      clear hR hA
      go_wp2
      exact ⟨⟨k + 1, by omega, by go_num, HR2, HA2⟩, by simp [intOf]; omega⟩
    · have hkk : k = q.length := by omega
      subst hkk
      go_wp2
      refine bodyPost_end (results_none rfl _ _ _) rfl ?_
      exact ⟨rfl, by have := HR.out; rwa [List.take_length] at this, HA.out⟩
/-- digits, one at least. -/
def digS : St → Except Int (Bs × Bs)
  | .ok L => digitsP L
  | .error e => .error e
def DgRet (w : World) (rb : Nat) (b : Bs) (r : Except Int (Bs × Bs)) (e : Ending) (w' : World) : Prop := ∃ n : Int, e = .returned (.int .i64 n) ∧ At rb w w' ∧ 0 ≤ n ∧ n ≤ 100000 ∧ match r with
  | .ok (d, M) => n = d.length ∧ RS w' rb b (.ok M)
  | .error d => RS w' rb b (.error d)
theorem isDig_head {c : UInt8} : (isDig c = true → (48 : Int) ≤ (c.toNat : Int) ∧ (c.toNat : Int) ≤ 57) ∧ (isDig c = false → (c.toNat : Int) < 48 ∨ 57 < (c.toNat : Int)) := by
  have h := isDig_iff c
  constructor
  · intro e
    have := h.1 e
    omega
  · intro e
    by_cases h1 : 48 ≤ c.toNat ∧ c.toNat ≤ 57
    · rw [h.2 h1] at e; cases e
    · omega
theorem RS.drop_step {w : World} {rb : Nat} {b L : Bs} {k : Nat} {c : UInt8} (hc : L[k]? = some c) (h : RS w rb b (.ok (L.drop k))) : ∃ q : Nat, w.cell? ⟨rb, 1, none⟩ = some (.int .i64 (q : Int)) ∧ w.frozen? ⟨rb, 1, none⟩ = false ∧ q < 100000 ∧
    RS (w.setCell ⟨rb, 1, none⟩ (.int .i64 ((q : Int) + 1))) rb b (.ok (L.drop (k + 1))) ∧ At rb w (w.setCell ⟨rb, 1, none⟩ (.int .i64 ((q : Int) + 1))) := by
  have hk := (List.getElem?_eq_some_iff.1 hc).1
  have e : L.drop k = c :: L.drop (k + 1) := by
    rw [List.drop_eq_getElem_cons hk]
    congr 1
    exact (List.getElem?_eq_some_iff.1 hc).2
  rw [e] at h
  exact h.step
theorem headV_at {L : Bs} {k : Nat} {c : UInt8} (hc : L[k]? = some c) : headV (.ok (L.drop k)) = (c.toNat : Int) := by
  have hk := (List.getElem?_eq_some_iff.1 hc).1
  rw [List.drop_eq_getElem_cons hk, (List.getElem?_eq_some_iff.1 hc).2]
  rfl
set_option maxRecDepth 100000 in
set_option maxHeartbeats 8000000 in
theorem rdigits_calls {w : World} {rb : Nat} {b : Bs} {s : St} (h : RS w rb b s) : Calls Tryz.prog 79 #[.pointer (some ⟨rb, 0, none⟩)] w (DgRet w rb b (digS s)) := by
  cases s with
  | error d =>
    have HN := Lib.hid (fun W (hR : RS W rb b (.error d)) => next_calls hR)
    have HR := Lib.hid h
    have hh : headV (.error d) = 0 := rfl
    have HF := Lib.hid (show failS 3 (.error d) = .error d from rfl)
    clear h
    go_enter Tryz.func79, Tryz.ntmps79
    go_wp2_with fail
    go_loopw [3] (fun v3 wr => v3 = .int .i64 0 ∧ Hid (RS wr rb b (.error d)) ∧ Hid (At rb w wr)) (fun _ _ => 0)
    case atStart => exact ⟨rfl, HR, Lib.hid (At.refl _ _)⟩
    case round =>
      clear HR
      obtain ⟨rfl, HR, HA⟩ := hrel
      go_wp2_with fail
      refine (HN.out _ HR.out).mono ?_
      rintro e w1 ⟨rfl, hR, hB⟩
      have HR1 := Lib.hid hR
      have HA1 := Lib.hid (At.below' HA.out hB)
      clear hR hB
      rw [hh]
      go_wp2_with fail
      refine (fail_calls HR1.out (d := 3) (by decide)).mono ?_
      rintro e w2 ⟨rfl, hR, hA⟩
      have HR2 := Lib.hid hR
      have HA2 := Lib.hid (At.trans HA1.out hA)
      clear hR hA
      go_wp2
      go_ret
      exact ⟨0, rfl, HA2.out, by omega, by omega, HR2.out⟩
  | ok L =>
    obtain ⟨T, hT⟩ : ∃ T, (L.takeWhile isDig).length = T := ⟨_, rfl⟩
    have hTL : T ≤ L.length := by rw [← hT]; exact tw_le _ _
    have hln := h.len
    obtain ⟨ht1, ht2⟩ := tw_take isDig L
    have HAT := Lib.hid (fun k (hk : k < T) => tw_at isDig L k (by rw [hT]; exact hk))
    have HEND := Lib.hid (fun (hk : T < L.length) => tw_end isDig L (by rw [hT]; exact hk))
    rw [hT] at ht1 ht2
    have HEQ := Lib.hid hT
    have HD := Lib.hid (show digS (.ok L) = if T = 0 then .error 3 else .ok (L.takeWhile isDig, L.drop T) by
      show digitsP L = _
      unfold digitsP
      rw [ht2]
      by_cases h0 : T = 0
      · rw [if_pos h0, if_pos (by rw [List.isEmpty_iff]; exact List.eq_nil_of_length_eq_zero (by rw [hT]; exact h0))]
      · rw [if_neg h0, if_neg (by rw [List.isEmpty_iff]; intro e; rw [e] at hT; exact h0 hT.symm)])
    have HR := Lib.hid (show RS w rb b (.ok (L.drop 0)) from h)
    clear h hT ht1 ht2
    go_enter Tryz.func79, Tryz.ntmps79
    go_wp2_with fail
    go_loopw [3] (fun v3 wr => ∃ k : Nat, k ≤ T ∧ v3 = .int .i64 k ∧ Hid (RS wr rb b (.ok (L.drop k))) ∧ Hid (At rb w wr)) (fun v3 _ => T - (intOf v3).toNat)
    case atStart => exact ⟨0, Nat.zero_le _, rfl, HR, Lib.hid (At.refl _ _)⟩
    case round =>
      clear HR
      obtain ⟨k, hkT, rfl, HR, HA⟩ := hrel
      by_cases hk : k < T
      · obtain ⟨c, hc1, hc2⟩ := HAT.out k hk
        have hhd := headV_at hc1
        have HC := Lib.hid hc1
        obtain ⟨d1, d2⟩ := isDig_head.1 hc2
        have HH := Lib.hid hhd
        clear hc1 hc2 hhd
        go_wp2_with fail
        refine (next_calls HR.out).mono ?_
        rintro e w1 ⟨rfl, hR, hB⟩
        rw [HH.out]
        have HR1 := Lib.hid hR
        have HA1 := Lib.hid (At.below' HA.out hB)
        clear hR hB
        go_wp2_with fail
        refine (next_calls HR1.out).mono ?_
        rintro e w2 ⟨rfl, hR, hB⟩
        rw [HH.out]
        obtain ⟨q, g1, f1, hq, hR2, hA2⟩ := RS.drop_step HC.out hR
        have HR2 := Lib.hid hR2
        have HA2 := Lib.hid (At.trans (At.below' HA1.out hB) hA2)
        clear hR hB hR2 hA2
        go_wp2
        exact ⟨⟨k + 1, by omega, by go_num, HR2, HA2⟩, by simp [intOf]; omega⟩
      · have hkk : k = T := by omega
        subst hkk
        have hcase : (∃ c, headV (.ok (L.drop k)) = (c.toNat : Int) ∧ isDig c = false) ∨ headV (.ok (L.drop k)) = 0 := by
          by_cases hl : k < L.length
          · obtain ⟨c, hc1, hc2⟩ := HEND.out hl
            rw [HEQ.out] at hc1
            exact .inl ⟨c, headV_at hc1, hc2⟩
          · right
            rw [List.drop_eq_nil_of_le (by omega)]
            rfl
        have hdec : (headV (.ok (L.drop k)) < 48) ∨ (48 ≤ headV (.ok (L.drop k)) ∧ 57 < headV (.ok (L.drop k))) := by
          rcases hcase with ⟨c, h1, h2⟩ | h1
          · rw [h1]
            rcases isDig_head.2 h2 with h | h
            · exact .inl h
            · exact .inr ⟨by omega, h⟩
          · rw [h1]; left; decide
        clear hcase
        have hfin : ∀ W, RS W rb b (.ok (L.drop k)) → At rb w W → k ≠ 0 → DgRet w rb b (digS (.ok L)) (.returned (.int .i64 k)) W := fun W hR hA h0 => by
          rw [HD.out, if_neg h0]
          exact ⟨k, rfl, hA, by omega, by omega, by rw [HEQ.out], hR⟩
        have hfin0 : ∀ W, RS W rb b (.error 3) → At rb w W → k = 0 → DgRet w rb b (digS (.ok L)) (.returned (.int .i64 k)) W := fun W hR hA h0 => by
          rw [HD.out, if_pos h0]
          exact ⟨k, rfl, hA, by omega, by omega, hR⟩
        have HFIN := Lib.hid hfin
        have HFIN0 := Lib.hid hfin0
        clear hfin hfin0
        obtain ⟨hv, hhv⟩ : ∃ v, headV (.ok (L.drop k)) = v := ⟨_, rfl⟩
        have HHV := Lib.hid hhv
        have hv1 := headV_lt (.ok (L.drop k))
        rw [hhv] at hdec hv1
        clear hhv
        rcases hdec with hd | ⟨hd1, hd2⟩
        · go_wp2_with fail
          refine (next_calls HR.out).mono ?_
          rintro e w1 ⟨rfl, hR, hB⟩
          rw [HHV.out]
          have HR1 := Lib.hid hR
          have HA1 := Lib.hid (At.below' HA.out hB)
          clear hR hB
          by_cases h0 : k = 0
          · subst h0
            go_wp2_with fail
            refine (fail_calls HR1.out (d := 3) (by decide)).mono ?_
            rintro e w2 ⟨rfl, hR, hA⟩
            have HR2 := Lib.hid hR
            have HA2 := Lib.hid (At.trans HA1.out hA)
            clear hR hA
            go_wp2
            go_ret
            exact HFIN0.out _ HR2.out HA2.out trivial
          · have h0b : ((k : Int) == 0) = false := beq_eq_false_iff_ne.2 (by omega)
            go_wp2
            go_ret
            exact HFIN.out _ HR1.out HA1.out h0
        · go_wp2_with fail
          refine (next_calls HR.out).mono ?_
          rintro e w1 ⟨rfl, hR, hB⟩
          rw [HHV.out]
          have HR0 := Lib.hid hR
          have HA0 := Lib.hid (At.below' HA.out hB)
          clear hR hB
          go_wp2_with fail
          refine (next_calls HR0.out).mono ?_
          rintro e w1' ⟨rfl, hR, hB⟩
          rw [HHV.out]
          have HR1 := Lib.hid hR
          have HA1 := Lib.hid (At.below' HA0.out hB)
          clear hR hB
          by_cases h0 : k = 0
          · subst h0
            go_wp2_with fail
            refine (fail_calls HR1.out (d := 3) (by decide)).mono ?_
            rintro e w2 ⟨rfl, hR, hA⟩
            have HR2 := Lib.hid hR
            have HA2 := Lib.hid (At.trans HA1.out hA)
            clear hR hA
            go_wp2
            go_ret
            exact HFIN0.out _ HR2.out HA2.out trivial
          · have h0b : ((k : Int) == 0) = false := beq_eq_false_iff_ne.2 (by omega)
            go_wp2
            go_ret
            exact HFIN.out _ HR1.out HA1.out h0
end Go.Proofs.YtminegmjklehnaaGreatDoor.J

/-
  The document's reader of JSON: hexadecimal digits, characters as bytes.
-/
namespace Go.Proofs.YtminegmjklehnaaGreatDoor.J
open Go.RowKit Go.Proofs.YtminegmjklehnaaGreatDoor.B
open Go.Proofs.YtminegmjklehnaaGreatDoor.M hiding Bs
open Go.Proofs.YtminegmjklehnaaGreatDoor.C (QRow Turn)
set_option linter.unusedVariables false
set_option linter.unusedSimpArgs false

def dhGo : Nat → Nat → Bs → Except Int (Nat × Bs)
  | 0, a, L => .ok (a, L)
  | _ + 1, _, [] => .error 3
  | k + 1, a, c :: L => match hexD c with
    | some d => dhGo k (a * 16 + d) L
    | none => .error 3
theorem dhGo_4 (L : Bs) : dhGo 4 0 L = hexP L := by
  match L with
  | [] => rfl
  | [a] => simp only [dhGo]; unfold hexP; split <;> rfl
  | [a, b] => simp only [dhGo]; unfold hexP; cases hexD a <;> cases hexD b <;> rfl
  | [a, b, c] => simp only [dhGo]; unfold hexP; cases hexD a <;> cases hexD b <;> cases hexD c <;> rfl
  | a :: b :: c :: d :: L =>
    rw [hexP_4]
    simp only [dhGo]
    cases hexD a with
    | none => rfl
    | some x =>
      cases hexD b with
      | none => rfl
      | some y =>
        cases hexD c with
        | none => rfl
        | some z =>
          cases hexD d with
          | none => rfl
          | some u =>
            show Except.ok ((((0 * 16 + x) * 16 + y) * 16 + z) * 16 + u, L) = Except.ok ((((x * 16 + y) * 16 + z) * 16 + u), L)
            rw [Nat.zero_mul, Nat.zero_add]
theorem hexD_some {c : UInt8} {d : Nat} (h : hexD c = some d) : d < 16 ∧ ((48 ≤ c.toNat ∧ c.toNat ≤ 57 ∧ d = c.toNat - 48) ∨ (97 ≤ c.toNat ∧ c.toNat ≤ 102 ∧ d = c.toNat - 87) ∨ (65 ≤ c.toNat ∧ c.toNat ≤ 70 ∧ d = c.toNat - 55)) := by
  unfold hexD at h
  split at h
  · cases h; omega
  split at h
  · cases h; omega
  split at h
  · cases h; omega
  · cases h
theorem hexD_none {c : UInt8} (h : hexD c = none) : ¬ (48 ≤ c.toNat ∧ c.toNat ≤ 57) ∧ ¬ (97 ≤ c.toNat ∧ c.toNat ≤ 102) ∧ ¬ (65 ≤ c.toNat ∧ c.toNat ≤ 70) := by
  unfold hexD at h
  split at h
  · cases h
  split at h
  · cases h
  split at h
  · cases h
  · rename_i h1 h2 h3
    exact ⟨h1, h2, h3⟩
def dhS : St → Except Int (Nat × Bs)
  | .ok L => hexP L
  | .error e => .error e
def HxRet (w : World) (rb : Nat) (b : Bs) (r : Except Int (Nat × Bs)) (e : Ending) (w' : World) : Prop := ∃ n : Int, e = .returned (.int .i64 n) ∧ At rb w w' ∧ 0 ≤ n ∧ n < 65536 ∧ match r with
  | .ok (x, M) => n = x ∧ RS w' rb b (.ok M)
  | .error d => n = 0 ∧ RS w' rb b (.error d)
set_option maxRecDepth 100000 in
set_option maxHeartbeats 16000000 in
theorem rhex_calls {w : World} {rb : Nat} {b : Bs} {s : St} (h : RS w rb b s) : Calls Tryz.prog 99 #[.pointer (some ⟨rb, 0, none⟩)] w (HxRet w rb b (dhS s)) := by
  have HR := Lib.hid h
  cases s with
  | error d =>
    have hh : headV (.error d) = 0 := rfl
    go_enter Tryz.func99, Tryz.ntmps99
    go_wp2_with fail
    go_loopw [3, 4, 5, 6] (fun v3 v4 v5 v6 wr => v4 = .int .i64 0 ∧ v3 = .int .i64 0 ∧ wr = w) (fun _ _ _ _ _ => 0)
    case atStart => exact ⟨rfl, rfl, rfl⟩
    case round =>
      obtain ⟨rfl, rfl, rfl⟩ := hrel
      go_wp2_with fail
      refine (next_calls HR.out).mono ?_
      rintro e w1 ⟨rfl, hR, hB⟩
      have HR1 := Lib.hid hR
      have HA1 := Lib.hid (at_below (rb := rb) hB)
      clear hR hB
      rw [hh]
      go_wp2_with fail
      refine (fail_calls HR1.out (d := 3) (by decide)).mono ?_
      rintro e w2 ⟨rfl, hR, hA⟩
      have HR2 := Lib.hid hR
      have HA2 := Lib.hid (At.trans HA1.out hA)
      clear hR hA
      go_wp2
      go_ret
      exact ⟨0, rfl, HA2.out, by omega, by omega, rfl, HR2.out⟩
  | ok L =>
    have HL := Lib.hid (show dhS (.ok L) = hexP L from rfl)
    have HG0 := Lib.hid (dhGo_4 L)
    clear h
    go_enter Tryz.func99, Tryz.ntmps99
    go_wp2_with fail
    go_loopw [3, 4, 5, 6] (fun v3 v4 v5 v6 wr => ∃ (k a : Nat) (av : Int) (K : Bs), k ≤ 4 ∧ v4 = .int .i64 k ∧ v3 = .int .i64 av ∧ 0 ≤ av ∧ av < 65536 ∧ Hid ((a : Int) = av ∧ a < 16 ^ k) ∧ Hid (dhGo (4 - k) a K = hexP L) ∧ Hid (RS wr rb b (.ok K)) ∧ Hid (At rb w wr)) (fun _ v4 _ _ _ => 4 - (intOf v4).toNat)
    case atStart => exact ⟨0, 0, 0, L, by omega, rfl, rfl, by omega, by omega, Lib.hid ⟨rfl, by decide⟩, HG0, HR, Lib.hid (At.refl _ _)⟩
    case round =>
      clear HR HG0
      obtain ⟨k, a, av, K, hk, rfl, rfl, hav0, hav1, HAV, HG, HR, HA⟩ := hrel
      by_cases hk4 : k < 4
      · have HGB := Lib.hid (show ∀ W, RS W rb b (.error 3) → At rb w W → hexP L = .error 3 → HxRet w rb b (dhS (.ok L)) (.returned (.int .i64 0)) W from fun W hR hA he => by
          rw [HL.out, he]
          exact ⟨0, rfl, hA, by omega, by omega, rfl, hR⟩)
        obtain ⟨m, hm⟩ : ∃ m, 4 - k = m + 1 := ⟨3 - k, by omega⟩
        have HG' := HG.out
        rw [hm] at HG'
        have hnone : (∃ c M, K = c :: M ∧ hexD c = none) ∨ K = [] ∨ (∃ c M d, K = c :: M ∧ hexD c = some d) := by
          cases K with
          | nil => exact .inr (.inl rfl)
          | cons c M =>
            cases hd : hexD c with
            | none => exact .inl ⟨c, M, rfl, hd⟩
            | some d => exact .inr (.inr ⟨c, M, d, rfl, hd⟩)
        rcases hnone with ⟨c, M, rfl, hd⟩ | rfl | ⟨c, M, d, rfl, hd⟩
        · obtain ⟨n1, n2, n3⟩ := hexD_none hd
          have HE := Lib.hid (show hexP L = .error 3 by rw [← HG']; simp only [dhGo]; rw [hd])
          have hh : headV (.ok (c :: M)) = (c.toNat : Int) := rfl
          have hlt := c.toNat_lt
          have m1 : ((c.toNat : Int) < 48) ∨ (48 ≤ (c.toNat : Int) ∧ 57 < (c.toNat : Int)) := by omega
          have m2 : ((c.toNat : Int) < 97) ∨ (97 ≤ (c.toNat : Int) ∧ 102 < (c.toNat : Int)) := by omega
          have m3 : ((c.toNat : Int) < 65) ∨ (65 ≤ (c.toNat : Int) ∧ 70 < (c.toNat : Int)) := by omega
          clear n1 n2 n3 hd HG' hm
          obtain ⟨cv, hcv⟩ : ∃ cv, (c.toNat : Int) = cv := ⟨_, rfl⟩
          rw [hcv] at m1 m2 m3 hh
          have HCV := Lib.hid hcv
          clear hcv
          rcases m1 with m1 | ⟨m1, m1'⟩ <;> rcases m2 with m2 | ⟨m2, m2'⟩ <;> rcases m3 with m3 | ⟨m3, m3'⟩
          all_goals first
          | (exfalso; omega)
          | (go_wp2_with fail
             refine (next_calls HR.out).mono ?_
             rintro e w1 ⟨rfl, hR, hB⟩
             have HR1 := Lib.hid hR
             have HA1 := Lib.hid (At.below' HA.out hB)
             clear hR hB
             rw [hh]
             go_wp2_with fail
             refine (fail_calls HR1.out (d := 3) (by decide)).mono ?_
             rintro e w2 ⟨rfl, hR, hA⟩
             have HR2 := Lib.hid hR
             have HA2 := Lib.hid (At.trans HA1.out hA)
             clear hR hA
             go_wp2
             go_ret
             exact HGB.out _ HR2.out HA2.out HE.out)
        · have HE := Lib.hid (show hexP L = .error 3 by rw [← HG']; rfl)
          have hh : headV (.ok []) = 0 := rfl
          clear HG' hm
          go_wp2_with fail
          refine (next_calls HR.out).mono ?_
          rintro e w1 ⟨rfl, hR, hB⟩
          have HR1 := Lib.hid hR
          have HA1 := Lib.hid (At.below' HA.out hB)
          clear hR hB
          rw [hh]
          go_wp2_with fail
          refine (fail_calls HR1.out (d := 3) (by decide)).mono ?_
          rintro e w2 ⟨rfl, hR, hA⟩
          have HR2 := Lib.hid hR
          have HA2 := Lib.hid (At.trans HA1.out hA)
          clear hR hA
          go_wp2
          go_ret
          exact HGB.out _ HR2.out HA2.out HE.out
        · obtain ⟨hd16, hdc⟩ := hexD_some hd
          have HE := Lib.hid (show dhGo (4 - (k + 1)) (a * 16 + d) M = hexP L by
            rw [← HG', show 4 - (k + 1) = m by omega]; simp only [dhGo]; rw [hd])
          have hh : headV (.ok (c :: M)) = (c.toNat : Int) := rfl
          have hav2 : 0 ≤ 16 * av + (d : Int) ∧ 16 * av + (d : Int) < 65536 ∧ Hid (((a * 16 + d : Nat) : Int) = 16 * av + (d : Int) ∧ a * 16 + d < 16 ^ (k + 1)) := by
            obtain ⟨h1, h2⟩ := HAV.out
            have hpow1 : 16 ^ (k + 1) = 16 * 16 ^ k := by rw [Nat.pow_succ, Nat.mul_comm]
            have hpow : 16 ^ (k + 1) ≤ 65536 := by
              have : 16 ^ (k + 1) ≤ 16 ^ 4 := Nat.pow_le_pow_right (by decide) (by omega)
              simpa using this
            exact ⟨by omega, by omega, Lib.hid ⟨by omega, by omega⟩⟩
          obtain ⟨hv0, hv1, HAV2⟩ := hav2
          have hk4' : (k : Int) < 4 := by omega
          clear hd HG' hm
          obtain ⟨cv, hcv⟩ : ∃ cv, (c.toNat : Int) = cv := ⟨_, rfl⟩
          obtain ⟨dv, hdv0⟩ : ∃ dv, (d : Int) = dv := ⟨_, rfl⟩
          have hdv : (48 ≤ cv ∧ cv ≤ 57 ∧ dv = cv - 48) ∨ (97 ≤ cv ∧ cv ≤ 102 ∧ dv = cv - 97 + 10) ∨ (65 ≤ cv ∧ cv ≤ 70 ∧ dv = cv - 65 + 10) := by omega
          rw [hcv] at hh
          rw [hdv0] at hv0 hv1 HAV2
          have HCV := Lib.hid hcv
          clear hcv hdc hdv0 hd16
          rcases hdv with ⟨m1, m2, hdd⟩ | ⟨m1, m2, hdd⟩ | ⟨m1, m2, hdd⟩
          all_goals
            subst hdd
            go_wp2_with fail
            refine (next_calls HR.out).mono ?_
            rintro e w1 ⟨rfl, hR, hB⟩
            obtain ⟨q, g1, f1, hq, hR2, hA2⟩ := RS.step hR
            have HR2 := Lib.hid hR2
            have HA2 := Lib.hid (At.trans (At.below' HA.out hB) hA2)
            clear hR hB hR2 hA2
            rw [hh]
            go_wp2
            exact ⟨⟨k + 1, a * 16 + d, _, M, by omega, by go_num, rfl, hv0, hv1, HAV2, HE, HR2, HA2⟩, by simp [intOf]; omega⟩
      · have hk4' : k = 4 := by omega
        subst hk4'
        have HE := Lib.hid (show hexP L = .ok (a, K) from HG.out.symm)
        have HFIN := Lib.hid (show ∀ W, RS W rb b (.ok K) → At rb w W → HxRet w rb b (dhS (.ok L)) (.returned (.int .i64 av)) W from fun W hR hA => by
          rw [HL.out, HE.out]
          exact ⟨av, rfl, hA, hav0, hav1, HAV.out.1.symm, hR⟩)
        clear HG
        go_wp2
        go_ret
        exact HFIN.out _ HR.out HA.out
end Go.Proofs.YtminegmjklehnaaGreatDoor.J

/-
  The document's reader of JSON: a character as bytes; how many bytes a character has.
-/
namespace Go.Proofs.YtminegmjklehnaaGreatDoor.J
open Go.RowKit Go.Proofs.YtminegmjklehnaaGreatDoor.B
open Go.Proofs.YtminegmjklehnaaGreatDoor.M hiding Bs
open Go.Proofs.YtminegmjklehnaaGreatDoor.C (QRow Turn)
set_option linter.unusedVariables false
set_option linter.unusedSimpArgs false

/-- bytes that the call made. -/
def BsN (w w' : World) (v : Value) (L : Bs) : Prop := ∃ g c, v = .slice (some ⟨g, 0, none⟩) L.length c ∧ w.heap.size ≤ g ∧ ∀ j u, (bc L)[j]? = some u → w'.cell? ⟨g, j, none⟩ = some u
theorem bsN_new (w : World) (L : Bs) (e : TypeId) (c : Nat) : BsN w (w.alloc (.cells (bc L).toArray e)) (.slice (some ⟨w.heap.size, 0, none⟩) L.length c) L := by
  refine ⟨_, c, rfl, Nat.le_refl _, fun j u hu => ?_⟩
  rw [cell_of_row _ _ _ _ e (0, 0) (heap_alloc_new w _)]
  simpa using hu
theorem bsN_of (w : World) (cs : Array Value) (L : Bs) (e : TypeId) (h : cs = (bc L).toArray) (n c : Nat) (hn : n = L.length) : BsN w (w.alloc (.cells cs e)) (.slice (some ⟨w.heap.size, 0, none⟩) n c) L := by
  subst h hn
  exact bsN_new w L e c
theorem u8n {n : Nat} (h : n < 256) : (((UInt8.ofNat n).toNat : Nat) : Int) = (n : Int) := by rw [ofNat_toNat h]
set_option maxRecDepth 100000 in
set_option maxHeartbeats 4000000 in
theorem utf_calls (n : Nat) (hn : n ≤ 1114111) (w : World) : Calls Tryz.prog 100 #[.int .i64 (n : Int)] w fun e w' => (∃ v, e = .returned v ∧ BsN w w' v (utfB n)) ∧ Below w.heap.size w w' := by
  obtain ⟨nv, hnv⟩ : ∃ nv, (n : Int) = nv := ⟨_, rfl⟩
  rw [hnv]
  have h0 : 0 ≤ nv := by omega
  have h1 : nv ≤ 1114111 := by omega
  have HNV := Lib.hid hnv
  clear hnv
  have hn' : (n : Int) = nv := HNV.out
  by_cases c1 : nv < 128
  · have E0 := Lib.hid (show (((UInt8.ofNat (n)).toNat : Nat) : Int) = nv by rw [u8n (by omega)]; omega)
    have HU := Lib.hid (show utfB n = [UInt8.ofNat n] by unfold utfB; rw [if_pos (by omega)])
    clear hn'
    go_enter Tryz.func100, Tryz.ntmps100
    go_wp2
    go_ret
    exact ⟨⟨_, rfl, bsN_of w _ (utfB n) 5 (by rw [HU.out]; simp only [bc, List.map]; rw [E0.out]) 1 1 (by rw [HU.out]; rfl)⟩, (Below.refl _ w).alloc (Nat.le_refl _) _⟩
  by_cases c2 : nv < 2048
  · have E0 := Lib.hid (show (((UInt8.ofNat (192 + n / 64)).toNat : Nat) : Int) = 192 + nv / 64 by rw [u8n (by omega)]; omega)
    have E1 := Lib.hid (show (((UInt8.ofNat (128 + n % 64)).toNat : Nat) : Int) = 128 + nv % 64 by rw [u8n (by omega)]; omega)
    have HU := Lib.hid (show utfB n = [UInt8.ofNat (192 + n / 64), UInt8.ofNat (128 + n % 64)] by unfold utfB; rw [if_neg (by omega), if_pos (by omega)])
    clear hn'
    go_enter Tryz.func100, Tryz.ntmps100
    go_wp2
    go_ret
    exact ⟨⟨_, rfl, bsN_of w _ (utfB n) 5 (by rw [HU.out]; simp only [bc, List.map]; rw [E0.out, E1.out]) 2 2 (by rw [HU.out]; rfl)⟩, (Below.refl _ w).alloc (Nat.le_refl _) _⟩
  by_cases c3 : nv < 65536
  · have E0 := Lib.hid (show (((UInt8.ofNat (224 + n / 4096)).toNat : Nat) : Int) = 224 + nv / 4096 by rw [u8n (by omega)]; omega)
    have E1 := Lib.hid (show (((UInt8.ofNat (128 + n / 64 % 64)).toNat : Nat) : Int) = 128 + nv / 64 % 64 by rw [u8n (by omega)]; omega)
    have E2 := Lib.hid (show (((UInt8.ofNat (128 + n % 64)).toNat : Nat) : Int) = 128 + nv % 64 by rw [u8n (by omega)]; omega)
    have HU := Lib.hid (show utfB n = [UInt8.ofNat (224 + n / 4096), UInt8.ofNat (128 + n / 64 % 64), UInt8.ofNat (128 + n % 64)] by unfold utfB; rw [if_neg (by omega), if_neg (by omega), if_pos (by omega)])
    clear hn'
    go_enter Tryz.func100, Tryz.ntmps100
    go_wp2
    go_ret
    exact ⟨⟨_, rfl, bsN_of w _ (utfB n) 5 (by rw [HU.out]; simp only [bc, List.map]; rw [E0.out, E1.out, E2.out]) 3 3 (by rw [HU.out]; rfl)⟩, (Below.refl _ w).alloc (Nat.le_refl _) _⟩
  · have E0 := Lib.hid (show (((UInt8.ofNat (240 + n / 262144)).toNat : Nat) : Int) = 240 + nv / 262144 by rw [u8n (by omega)]; omega)
    have E1 := Lib.hid (show (((UInt8.ofNat (128 + n / 4096 % 64)).toNat : Nat) : Int) = 128 + nv / 4096 % 64 by rw [u8n (by omega)]; omega)
    have E2 := Lib.hid (show (((UInt8.ofNat (128 + n / 64 % 64)).toNat : Nat) : Int) = 128 + nv / 64 % 64 by rw [u8n (by omega)]; omega)
    have E3 := Lib.hid (show (((UInt8.ofNat (128 + n % 64)).toNat : Nat) : Int) = 128 + nv % 64 by rw [u8n (by omega)]; omega)
    have HU := Lib.hid (show utfB n = [UInt8.ofNat (240 + n / 262144), UInt8.ofNat (128 + n / 4096 % 64), UInt8.ofNat (128 + n / 64 % 64), UInt8.ofNat (128 + n % 64)] by unfold utfB; rw [if_neg (by omega), if_neg (by omega), if_neg (by omega)])
    clear hn'
    go_enter Tryz.func100, Tryz.ntmps100
    go_wp2
    go_ret
    exact ⟨⟨_, rfl, bsN_of w _ (utfB n) 5 (by rw [HU.out]; simp only [bc, List.map]; rw [E0.out, E1.out, E2.out, E3.out]) 4 4 (by rw [HU.out]; rfl)⟩, (Below.refl _ w).alloc (Nat.le_refl _) _⟩
/-- the first byte's share: how many bytes, the least number, the bits. -/
def chHead (c : Nat) : Nat × Nat × Nat := if 192 ≤ c ∧ c < 224 then (2, 128, c - 192) else if 224 ≤ c ∧ c < 240 then (3, 2048, c - 224) else if 240 ≤ c ∧ c < 248 then (4, 65536, c - 240) else (0, 0, c)
def chI (l : Bs) (c0 : Int) : Nat → Int
  | 0 => c0
  | k + 1 => 64 * chI l c0 k + (bN l (k + 1) : Int) - 128
theorem char_low {l : Bs} (h : l ≠ []) (h1 : bN l 0 < 128) : charN l = 1 := by
  rw [charN_eq l h]
  unfold ch
  rw [if_pos h1]
theorem char_none {l : Bs} (h : l ≠ []) (h1 : 128 ≤ bN l 0) (h2 : (chHead (bN l 0)).1 = 0 ∨ l.length < (chHead (bN l 0)).1) : charN l = 0 := by
  rw [charN_eq l h]
  unfold chHead at h2
  unfold ch
  rw [if_neg (by omega)]
  split at h2
  · rename_i hc
    dsimp only at h2
    rw [if_neg (by unfold ch2; omega), if_neg (by unfold ch3; omega), if_neg (by unfold ch4; omega)]
  split at h2
  · rename_i hc
    dsimp only at h2
    rw [if_neg (by unfold ch2; omega), if_neg (by unfold ch3; omega), if_neg (by unfold ch4; omega)]
  split at h2
  · rename_i hc
    dsimp only at h2
    rw [if_neg (by unfold ch2; omega), if_neg (by unfold ch3; omega), if_neg (by unfold ch4; omega)]
  · rw [if_neg (by unfold ch2; omega), if_neg (by unfold ch3; omega), if_neg (by unfold ch4; omega)]
theorem char_bad {l : Bs} (h : l ≠ []) (h1 : 128 ≤ bN l 0) (j : Nat) (hj : j + 1 < (chHead (bN l 0)).1) (h2 : bN l (j + 1) / 64 ≠ 2) : charN l = 0 := by
  rw [charN_eq l h]
  unfold chHead at hj
  unfold ch
  rw [if_neg (by omega)]
  split at hj
  · rename_i hc
    dsimp only at hj
    have : j = 0 := by omega
    subst this
    have h2 : bN l 1 / 64 ≠ 2 := h2
    rw [if_neg (by unfold ch2; omega), if_neg (by unfold ch3; omega), if_neg (by unfold ch4; omega)]
  split at hj
  · rename_i hc
    dsimp only at hj
    have hj : j = 0 ∨ j = 1 := by omega
    rcases hj with rfl | rfl
    · have h2 : bN l 1 / 64 ≠ 2 := h2
      rw [if_neg (by unfold ch2; omega), if_neg (by unfold ch3; omega), if_neg (by unfold ch4; omega)]
    · have h2 : bN l 2 / 64 ≠ 2 := h2
      rw [if_neg (by unfold ch2; omega), if_neg (by unfold ch3; omega), if_neg (by unfold ch4; omega)]
  split at hj
  · rename_i hc
    dsimp only at hj
    have hj : j = 0 ∨ j = 1 ∨ j = 2 := by omega
    rcases hj with rfl | rfl | rfl
    · have h2 : bN l 1 / 64 ≠ 2 := h2
      rw [if_neg (by unfold ch2; omega), if_neg (by unfold ch3; omega), if_neg (by unfold ch4; omega)]
    · have h2 : bN l 2 / 64 ≠ 2 := h2
      rw [if_neg (by unfold ch2; omega), if_neg (by unfold ch3; omega), if_neg (by unfold ch4; omega)]
    · have h2 : bN l 3 / 64 ≠ 2 := h2
      rw [if_neg (by unfold ch2; omega), if_neg (by unfold ch3; omega), if_neg (by unfold ch4; omega)]
  · dsimp only at hj
    omega
def ChBad (l : Bs) (least : Nat) (v : Int) : Prop := v < least ∨ 1114111 < v ∨ (55296 ≤ v ∧ v < 57344)
instance (l : Bs) (least : Nat) (v : Int) : Decidable (ChBad l least v) := by unfold ChBad; infer_instance
theorem char_fin {l : Bs} (h : l ≠ []) (h1 : 128 ≤ bN l 0) (hn : (chHead (bN l 0)).1 ≠ 0) (hl : (chHead (bN l 0)).1 ≤ l.length) (h2 : ∀ j, j + 1 < (chHead (bN l 0)).1 → bN l (j + 1) / 64 = 2) :
    charN l = if ChBad l (chHead (bN l 0)).2.1 (chI l ((chHead (bN l 0)).2.2 : Int) ((chHead (bN l 0)).1 - 1)) then 0 else (chHead (bN l 0)).1 := by
  rw [charN_eq l h]
  unfold chHead at *
  unfold ch
  rw [if_neg (by omega)]
  split at hn
  · rename_i hc
    rw [if_pos hc] at hl h2 ⊢
    dsimp only at hl h2 ⊢
    have k0 := h2 0 (by omega)
    have e : chI l ((bN l 0 - 192 : Nat) : Int) (2 - 1) = 64 * ((bN l 0 - 192 : Nat) : Int) + (bN l (0 + 1) : Int) - 128 := rfl
    rw [e]
    simp only [Nat.zero_add] at k0 ⊢
    by_cases hb : ChBad l 128 (64 * ((bN l 0 - 192 : Nat) : Int) + (bN l 1 : Int) - 128)
    · rw [if_pos hb]
      unfold ChBad at hb
      rw [if_neg (by unfold ch2; omega), if_neg (by unfold ch3; omega), if_neg (by unfold ch4; omega)]
    · rw [if_neg hb]
      unfold ChBad at hb
      rw [if_pos (by unfold ch2; omega)]
  rename_i hc0
  rw [if_neg hc0] at hl h2 ⊢
  split at hn
  · rename_i hc
    rw [if_pos hc] at hl h2 ⊢
    dsimp only at hl h2 ⊢
    have k0 := h2 0 (by omega)
    have k1 := h2 1 (by omega)
    have e : chI l ((bN l 0 - 224 : Nat) : Int) (3 - 1) = 64 * (64 * ((bN l 0 - 224 : Nat) : Int) + (bN l (0 + 1) : Int) - 128) + (bN l (1 + 1) : Int) - 128 := rfl
    rw [e]
    simp only [Nat.zero_add, Nat.reduceAdd] at k0 k1 ⊢
    by_cases hb : ChBad l 2048 (64 * (64 * ((bN l 0 - 224 : Nat) : Int) + (bN l 1 : Int) - 128) + (bN l 2 : Int) - 128)
    · rw [if_pos hb]
      unfold ChBad at hb
      rw [if_neg (by unfold ch2; omega), if_neg (by unfold ch3; omega), if_neg (by unfold ch4; omega)]
    · rw [if_neg hb]
      unfold ChBad at hb
      rw [if_neg (by unfold ch2; omega), if_pos (by unfold ch3; omega)]
  rename_i hc1
  rw [if_neg hc1] at hl h2 ⊢
  split at hn
  · rename_i hc
    rw [if_pos hc] at hl h2 ⊢
    dsimp only at hl h2 ⊢
    have k0 := h2 0 (by omega)
    have k1 := h2 1 (by omega)
    have k2 := h2 2 (by omega)
    have e : chI l ((bN l 0 - 240 : Nat) : Int) (4 - 1) = 64 * (64 * (64 * ((bN l 0 - 240 : Nat) : Int) + (bN l (0 + 1) : Int) - 128) + (bN l (1 + 1) : Int) - 128) + (bN l (2 + 1) : Int) - 128 := rfl
    rw [e]
    simp only [Nat.zero_add, Nat.reduceAdd] at k0 k1 k2 ⊢
    by_cases hb : ChBad l 65536 (64 * (64 * (64 * ((bN l 0 - 240 : Nat) : Int) + (bN l 1 : Int) - 128) + (bN l 2 : Int) - 128) + (bN l 3 : Int) - 128)
    · rw [if_pos hb]
      unfold ChBad at hb
      rw [if_neg (by unfold ch2; omega), if_neg (by unfold ch3; omega), if_neg (by unfold ch4; omega)]
    · rw [if_neg hb]
      unfold ChBad at hb
      rw [if_neg (by unfold ch2; omega), if_neg (by unfold ch3; omega), if_pos (by unfold ch4; omega)]
  · exact absurd rfl hn
theorem chI_bound {l : Bs} {c0 : Int} (h0 : 0 ≤ c0) (h1 : c0 ≤ 31) : ∀ k, (∀ j, j < k → bN l (j + 1) / 64 = 2) → 0 ≤ chI l c0 k ∧ chI l c0 k + 1 ≤ 32 * 64 ^ k
  | 0, _ => ⟨h0, by show c0 + 1 ≤ 32 * 1; omega⟩
  | k + 1, h => by
    obtain ⟨h2, h3⟩ := chI_bound h0 h1 k (fun j hj => h j (by omega))
    have h4 := h k (by omega)
    rw [chI, Int.pow_succ]
    omega
theorem bN_at {l : Bs} {i : Nat} {x : UInt8} (h : l[i]? = some x) : (x.toNat : Int) = (bN l i : Int) := by
  show _ = (((l.getD i 0).toNat : Nat) : Int)
  rw [List.getD_eq_getElem?_getD, h]; rfl
theorem chHead_le (c : Nat) (h : 128 ≤ c) (h2 : c < 256) (hn : (chHead c).1 ≠ 0) : (chHead c).1 ≤ 4 ∧ 2 ≤ (chHead c).1 ∧ (chHead c).2.2 ≤ 31 := by
  unfold chHead at *
  split at hn
  · rename_i hc; rw [if_pos hc]; dsimp only; omega
  rename_i hc0; rw [if_neg hc0]
  split at hn
  · rename_i hc; rw [if_pos hc]; dsimp only; omega
  rename_i hc1; rw [if_neg hc1]
  split at hn
  · rename_i hc; rw [if_pos hc]; dsimp only; omega
  · exact absurd rfl hn
def CRet (w : World) (n : Nat) (e : Ending) (w' : World) : Prop := e = .returned (.int .i64 (n : Int)) ∧ Below w.heap.size w w'
set_option maxRecDepth 100000 in
set_option maxHeartbeats 16000000 in
theorem char_calls {w : World} {F : Nat → Prop} {l : Bs} {A : Option Addr} {n c : Nat} (h : SlV w F 1 ByR l A n) : Calls Tryz.prog 78 #[.slice A n c] w (CRet w (charN l)) := by
  have hnl := h.2.1
  have HL := Lib.hid h.1
  have S := Lib.hid h
  clear h
  by_cases hl0 : n = 0
  · subst hl0
    have HC := Lib.hid (show charN l = 0 by rw [List.eq_nil_of_length_eq_zero HL.out]; rfl)
    go_enter Tryz.func78, Tryz.ntmps78
    go_wp2
    go_ret
    exact ⟨by rw [HC.out]; rfl, Below.refl _ _⟩
  have hne : l ≠ [] := by
    intro e
    have := HL.out
    rw [e] at this
    exact hl0 this.symm
  obtain ⟨x, hx⟩ : ∃ x, l[0]? = some x := ⟨l[0]'(by rw [HL.out]; omega), List.getElem?_eq_getElem _⟩
  obtain ⟨ad, p, rfl, hp, -, d0⟩ := by_cell S.out hx
  have hxb := bN_at hx
  rw [hxb] at d0
  have hb256 := bN_lt l 0
  have HNE := Lib.hid hne
  obtain ⟨b0, hb0⟩ : ∃ b0, bN l 0 = b0 := ⟨_, rfl⟩
  rw [hb0] at d0 hb256
  have HB0 := Lib.hid hb0
  have hlen0 : (0 : Int) < (n : Int) := by omega
  have hlb : ((n : Int) == 0) = false := beq_eq_false_iff_ne.2 (by omega)
  clear hx hxb hne hb0 hl0
  by_cases hlow : b0 < 128
  · have HC := Lib.hid (char_low HNE.out (by rw [HB0.out]; exact hlow))
    have hlow' : (b0 : Int) < 128 := by omega
    go_enter Tryz.func78, Tryz.ntmps78
    go_wp2
    go_ret
    exact ⟨by rw [HC.out]; rfl, Below.refl _ _⟩
  have HGE := Lib.hid (show 128 ≤ bN l 0 by rw [HB0.out]; omega)
  have HNO := Lib.hid (fun h => char_none HNE.out HGE.out (by rw [HB0.out]; exact h))
  have HBAD := Lib.hid (fun j hj h => char_bad HNE.out HGE.out j (by rw [HB0.out]; exact hj) h)
  have HFI := Lib.hid (fun hn hl h => char_fin HNE.out HGE.out (by rw [HB0.out]; exact hn) (by rw [HB0.out]; exact hl) (by rw [HB0.out]; exact h))
  rw [HB0.out] at HFI
  have hlow' : ¬ (b0 : Int) < 128 := by omega
  have hbi : (b0 : Int) < 256 := by omega
  have HHL := Lib.hid (chHead_le b0 (by omega) hb256)
  obtain ⟨bv, hbv⟩ : ∃ bv, (b0 : Int) = bv := ⟨_, rfl⟩
  rw [hbv] at d0 hlow' hbi
  have HBV := Lib.hid hbv
  have HLOW := Lib.hid hlow
  clear hbv hlow hb256
  by_cases k0 : bv < 192
  · have HC := Lib.hid (show charN l = 0 from HNO.out (by have := HBV.out; unfold chHead; rw [if_neg (by omega), if_neg (by omega), if_neg (by omega)]; exact .inl rfl))
    have z0 : bv < 224 := by omega
    have z1 : bv < 240 := by omega
    go_enter Tryz.func78, Tryz.ntmps78
    go_wp2
    go_ret
    exact ⟨by rw [HC.out]; rfl, Below.refl _ _⟩
  by_cases k9 : 248 ≤ bv
  · have HC := Lib.hid (show charN l = 0 from HNO.out (by have := HBV.out; unfold chHead; rw [if_neg (by omega), if_neg (by omega), if_neg (by omega)]; exact .inl rfl))
    have z0 : 192 ≤ bv := by omega
    have z1 : 224 ≤ bv := by omega
    have z2 : 240 ≤ bv := by omega
    go_enter Tryz.func78, Tryz.ntmps78
    go_wp2
    go_ret
    exact ⟨by rw [HC.out]; rfl, Below.refl _ _⟩
  by_cases k1 : bv < 224
  · have HH := Lib.hid (show chHead b0 = (2, 128, b0 - 192) by have := HBV.out; unfold chHead; rw [if_pos (by omega)])
    rw [HH.out] at HFI HHL HNO HBAD
    have z0 : 192 ≤ bv := by omega
    have z1 : bv - 192 < 224 := by omega
    have z2 : bv - 192 < 240 := by omega
    by_cases hsm : n < 2
    · have HC := Lib.hid (show charN l = 0 from HNO.out (.inr (by rw [HL.out]; exact hsm)))
      have hsm' : (n : Int) < 2 := by omega
      go_enter Tryz.func78, Tryz.ntmps78
      go_wp2
      go_ret
      exact ⟨by rw [HC.out]; rfl, Below.refl _ _⟩
    have hsm' : (2 : Int) ≤ (n : Int) := by omega
    have HFIN := Lib.hid (fun h => HFI.out (show (2 : Nat) ≠ 0 by decide) (by rw [HL.out]; omega) h)
    obtain ⟨c0, hc0⟩ : ∃ c0, bv - 192 = c0 := ⟨_, rfl⟩
    have HC0 := Lib.hid (show ((b0 - 192 : Nat) : Int) = c0 by have := HBV.out; omega)
    have hc1 : 0 ≤ c0 ∧ c0 ≤ 31 := by omega
    have HCB := Lib.hid (fun k h => chI_bound (l := l) hc1.1 hc1.2 k h)
    have HSUB := Lib.hid hc0
    clear HFI HNO
    go_enter Tryz.func78, Tryz.ntmps78
    go_wp2_with fail
    go_loopw [3, 6] (fun v3 v6 wr => ∃ (k : Nat) (v : Int), 1 ≤ k ∧ k ≤ 2 ∧ v6 = .int .i64 (k : Int) ∧ v3 = .int .i64 v ∧ 0 ≤ v ∧ v ≤ 8388607 ∧ Hid (v = chI l c0 (k - 1)) ∧ Hid (∀ j, j + 1 < k → bN l (j + 1) / 64 = 2) ∧ wr = w) (fun _ v6 _ => 2 - (intOf v6).toNat)
    case atStart => exact ⟨1, c0, by omega, by omega, rfl, by rw [← HSUB.out], hc1.1, by omega, Lib.hid rfl, Lib.hid (fun j hj => by omega), rfl⟩
    case round =>
      obtain ⟨k, v, hk1, hkn, rfl, rfl, hv0, hv1, HV, HCT, rfl⟩ := hrel
      by_cases hk : k < 2
      · obtain ⟨x, hx⟩ : ∃ x, l[k]? = some x := ⟨l[k]'(by rw [HL.out]; omega), List.getElem?_eq_getElem _⟩
        obtain ⟨ad', p', had, hp', -, d1⟩ := by_cell S.out hx
        cases had
        have hxb := bN_at hx
        have hb2 := bN_lt l k
        rw [hxb] at d1
        have hkl : (k : Int) < (n : Int) := by omega
        have hkn' : (k : Int) < 2 := by omega
        obtain ⟨xv, hxv⟩ : ∃ xv, (bN l k : Int) = xv := ⟨_, rfl⟩
        rw [hxv] at d1
        have hx0 : 0 ≤ xv := by omega
        have hx1 : xv < 256 := by omega
        have HXV := Lib.hid hxv
        clear hx hxb hb2 hxv
        have HBK := Lib.hid (show (xv < 128 ∨ 192 ≤ xv) → charN l = 0 from fun h => HBAD.out (k - 1) (by show k - 1 + 1 < 2; omega) (by rw [show k - 1 + 1 = k by omega]; have := HXV.out; omega))
        by_cases hlo : xv < 128
        · have HC := Lib.hid (HBK.out (.inl hlo))
          go_wp2
          go_ret
          exact ⟨by rw [HC.out]; rfl, Below.refl _ _⟩
        by_cases hhi : 192 ≤ xv
        · have HC := Lib.hid (HBK.out (.inr hhi))
          go_wp2
          go_ret
          exact ⟨by rw [HC.out]; rfl, Below.refl _ _⟩
        · have HCT2 := Lib.hid (show ∀ j, j + 1 < k + 1 → bN l (j + 1) / 64 = 2 from fun j hj => by
            by_cases e : j + 1 = k
            · rw [e]; have := HXV.out; omega
            · exact HCT.out j (by omega))
          have HV2 := Lib.hid (show 64 * v + xv - 128 = chI l c0 (k + 1 - 1) by
            obtain ⟨m, rfl⟩ : ∃ m, k = m + 1 := ⟨k - 1, by omega⟩
            show _ = 64 * chI l c0 m + (bN l (m + 1) : Int) - 128
            rw [HXV.out, HV.out]; rfl)
          have hbd : 0 ≤ 64 * v + xv - 128 ∧ 64 * v + xv - 128 ≤ 8388607 := by
            have h1 := HCB.out (k + 1 - 1) (fun j hj => HCT2.out j (by omega))
            rw [← HV2.out] at h1
            have h2 : (64 : Int) ^ (k + 1 - 1) ≤ 262144 := by
              have h3 : (64 : Nat) ^ (k + 1 - 1) ≤ 64 ^ 3 := Nat.pow_le_pow_right (by decide) (by omega)
              have h4 : ((64 ^ (k + 1 - 1) : Nat) : Int) ≤ ((64 ^ 3 : Nat) : Int) := Int.ofNat_le.2 h3
              simpa using h4
            omega
          obtain ⟨hb1, hb2⟩ := hbd
          go_wp2
          exact ⟨⟨k + 1, 64 * v + xv - 128, by omega, by omega, by go_num, rfl, hb1, hb2, HV2, HCT2, trivial⟩, by simp [intOf]; omega⟩
      · have hkk : k = 2 := by omega
        subst hkk
        have HC := Lib.hid (show charN l = if ChBad l 128 v then 0 else 2 by rw [HV.out, HFIN.out HCT.out, HC0.out])
        have HV3 := Lib.hid (show ChBad l 128 v ↔ (v < 128 ∨ 1114111 < v ∨ (55296 ≤ v ∧ v < 57344)) from Iff.rfl)
        by_cases a1 : v < 128
        · have HC2 := Lib.hid (HC.out.trans (if_pos (HV3.out.2 (.inl a1))))
          go_wp2
          go_ret
          exact ⟨by rw [HC2.out]; rfl, Below.refl _ _⟩
        by_cases a2 : 1114111 < v
        · have HC2 := Lib.hid (HC.out.trans (if_pos (HV3.out.2 (.inr (.inl a2)))))
          go_wp2
          go_ret
          exact ⟨by rw [HC2.out]; rfl, Below.refl _ _⟩
        by_cases a3 : 55296 ≤ v
        · by_cases a4 : v < 57344
          · have HC2 := Lib.hid (HC.out.trans (if_pos (HV3.out.2 (.inr (.inr ⟨a3, a4⟩)))))
            go_wp2
            go_ret
            exact ⟨by rw [HC2.out]; rfl, Below.refl _ _⟩
          · have HC2 := Lib.hid (HC.out.trans (if_neg (fun h => by have := HV3.out.1 h; omega)))
            go_wp2
            go_ret
            exact ⟨by rw [HC2.out]; rfl, Below.refl _ _⟩
        · have HC2 := Lib.hid (HC.out.trans (if_neg (fun h => by have := HV3.out.1 h; omega)))
          go_wp2
          go_ret
          exact ⟨by rw [HC2.out]; rfl, Below.refl _ _⟩
  by_cases k2 : bv < 240
  · have HH := Lib.hid (show chHead b0 = (3, 2048, b0 - 224) by have := HBV.out; unfold chHead; rw [if_neg (by omega), if_pos (by omega)])
    rw [HH.out] at HFI HHL HNO HBAD
    have z0 : 192 ≤ bv := by omega
    have z1 : 224 ≤ bv := by omega
    have z2 : bv - 224 < 240 := by omega
    by_cases hsm : n < 3
    · have HC := Lib.hid (show charN l = 0 from HNO.out (.inr (by rw [HL.out]; exact hsm)))
      have hsm' : (n : Int) < 3 := by omega
      go_enter Tryz.func78, Tryz.ntmps78
      go_wp2
      go_ret
      exact ⟨by rw [HC.out]; rfl, Below.refl _ _⟩
    have hsm' : (3 : Int) ≤ (n : Int) := by omega
    have HFIN := Lib.hid (fun h => HFI.out (show (3 : Nat) ≠ 0 by decide) (by rw [HL.out]; omega) h)
    obtain ⟨c0, hc0⟩ : ∃ c0, bv - 224 = c0 := ⟨_, rfl⟩
    have HC0 := Lib.hid (show ((b0 - 224 : Nat) : Int) = c0 by have := HBV.out; omega)
    have hc1 : 0 ≤ c0 ∧ c0 ≤ 31 := by omega
    have HCB := Lib.hid (fun k h => chI_bound (l := l) hc1.1 hc1.2 k h)
    have HSUB := Lib.hid hc0
    clear HFI HNO
    go_enter Tryz.func78, Tryz.ntmps78
    go_wp2_with fail
    go_loopw [3, 6] (fun v3 v6 wr => ∃ (k : Nat) (v : Int), 1 ≤ k ∧ k ≤ 3 ∧ v6 = .int .i64 (k : Int) ∧ v3 = .int .i64 v ∧ 0 ≤ v ∧ v ≤ 8388607 ∧ Hid (v = chI l c0 (k - 1)) ∧ Hid (∀ j, j + 1 < k → bN l (j + 1) / 64 = 2) ∧ wr = w) (fun _ v6 _ => 3 - (intOf v6).toNat)
    case atStart => exact ⟨1, c0, by omega, by omega, rfl, by rw [← HSUB.out], hc1.1, by omega, Lib.hid rfl, Lib.hid (fun j hj => by omega), rfl⟩
    case round =>
      obtain ⟨k, v, hk1, hkn, rfl, rfl, hv0, hv1, HV, HCT, rfl⟩ := hrel
      by_cases hk : k < 3
      · obtain ⟨x, hx⟩ : ∃ x, l[k]? = some x := ⟨l[k]'(by rw [HL.out]; omega), List.getElem?_eq_getElem _⟩
        obtain ⟨ad', p', had, hp', -, d1⟩ := by_cell S.out hx
        cases had
        have hxb := bN_at hx
        have hb2 := bN_lt l k
        rw [hxb] at d1
        have hkl : (k : Int) < (n : Int) := by omega
        have hkn' : (k : Int) < 3 := by omega
        obtain ⟨xv, hxv⟩ : ∃ xv, (bN l k : Int) = xv := ⟨_, rfl⟩
        rw [hxv] at d1
        have hx0 : 0 ≤ xv := by omega
        have hx1 : xv < 256 := by omega
        have HXV := Lib.hid hxv
        clear hx hxb hb2 hxv
        have HBK := Lib.hid (show (xv < 128 ∨ 192 ≤ xv) → charN l = 0 from fun h => HBAD.out (k - 1) (by show k - 1 + 1 < 3; omega) (by rw [show k - 1 + 1 = k by omega]; have := HXV.out; omega))
        by_cases hlo : xv < 128
        · have HC := Lib.hid (HBK.out (.inl hlo))
          go_wp2
          go_ret
          exact ⟨by rw [HC.out]; rfl, Below.refl _ _⟩
        by_cases hhi : 192 ≤ xv
        · have HC := Lib.hid (HBK.out (.inr hhi))
          go_wp2
          go_ret
          exact ⟨by rw [HC.out]; rfl, Below.refl _ _⟩
        · have HCT2 := Lib.hid (show ∀ j, j + 1 < k + 1 → bN l (j + 1) / 64 = 2 from fun j hj => by
            by_cases e : j + 1 = k
            · rw [e]; have := HXV.out; omega
            · exact HCT.out j (by omega))
          have HV2 := Lib.hid (show 64 * v + xv - 128 = chI l c0 (k + 1 - 1) by
            obtain ⟨m, rfl⟩ : ∃ m, k = m + 1 := ⟨k - 1, by omega⟩
            show _ = 64 * chI l c0 m + (bN l (m + 1) : Int) - 128
            rw [HXV.out, HV.out]; rfl)
          have hbd : 0 ≤ 64 * v + xv - 128 ∧ 64 * v + xv - 128 ≤ 8388607 := by
            have h1 := HCB.out (k + 1 - 1) (fun j hj => HCT2.out j (by omega))
            rw [← HV2.out] at h1
            have h2 : (64 : Int) ^ (k + 1 - 1) ≤ 262144 := by
              have h3 : (64 : Nat) ^ (k + 1 - 1) ≤ 64 ^ 3 := Nat.pow_le_pow_right (by decide) (by omega)
              have h4 : ((64 ^ (k + 1 - 1) : Nat) : Int) ≤ ((64 ^ 3 : Nat) : Int) := Int.ofNat_le.2 h3
              simpa using h4
            omega
          obtain ⟨hb1, hb2⟩ := hbd
          go_wp2
          exact ⟨⟨k + 1, 64 * v + xv - 128, by omega, by omega, by go_num, rfl, hb1, hb2, HV2, HCT2, trivial⟩, by simp [intOf]; omega⟩
      · have hkk : k = 3 := by omega
        subst hkk
        have HC := Lib.hid (show charN l = if ChBad l 2048 v then 0 else 3 by rw [HV.out, HFIN.out HCT.out, HC0.out])
        have HV3 := Lib.hid (show ChBad l 2048 v ↔ (v < 2048 ∨ 1114111 < v ∨ (55296 ≤ v ∧ v < 57344)) from Iff.rfl)
        by_cases a1 : v < 2048
        · have HC2 := Lib.hid (HC.out.trans (if_pos (HV3.out.2 (.inl a1))))
          go_wp2
          go_ret
          exact ⟨by rw [HC2.out]; rfl, Below.refl _ _⟩
        by_cases a2 : 1114111 < v
        · have HC2 := Lib.hid (HC.out.trans (if_pos (HV3.out.2 (.inr (.inl a2)))))
          go_wp2
          go_ret
          exact ⟨by rw [HC2.out]; rfl, Below.refl _ _⟩
        by_cases a3 : 55296 ≤ v
        · by_cases a4 : v < 57344
          · have HC2 := Lib.hid (HC.out.trans (if_pos (HV3.out.2 (.inr (.inr ⟨a3, a4⟩)))))
            go_wp2
            go_ret
            exact ⟨by rw [HC2.out]; rfl, Below.refl _ _⟩
          · have HC2 := Lib.hid (HC.out.trans (if_neg (fun h => by have := HV3.out.1 h; omega)))
            go_wp2
            go_ret
            exact ⟨by rw [HC2.out]; rfl, Below.refl _ _⟩
        · have HC2 := Lib.hid (HC.out.trans (if_neg (fun h => by have := HV3.out.1 h; omega)))
          go_wp2
          go_ret
          exact ⟨by rw [HC2.out]; rfl, Below.refl _ _⟩
  have HH := Lib.hid (show chHead b0 = (4, 65536, b0 - 240) by have := HBV.out; unfold chHead; rw [if_neg (by omega), if_neg (by omega), if_pos (by omega)])
  rw [HH.out] at HFI HHL HNO HBAD
  have z0 : 192 ≤ bv := by omega
  have z1 : 224 ≤ bv := by omega
  have z2 : 240 ≤ bv := by omega
  have z3 : bv < 248 := by omega
  by_cases hsm : n < 4
  · have HC := Lib.hid (show charN l = 0 from HNO.out (.inr (by rw [HL.out]; exact hsm)))
    have hsm' : (n : Int) < 4 := by omega
    go_enter Tryz.func78, Tryz.ntmps78
    go_wp2
    go_ret
    exact ⟨by rw [HC.out]; rfl, Below.refl _ _⟩
  have hsm' : (4 : Int) ≤ (n : Int) := by omega
  have HFIN := Lib.hid (fun h => HFI.out (show (4 : Nat) ≠ 0 by decide) (by rw [HL.out]; omega) h)
  obtain ⟨c0, hc0⟩ : ∃ c0, bv - 240 = c0 := ⟨_, rfl⟩
  have HC0 := Lib.hid (show ((b0 - 240 : Nat) : Int) = c0 by have := HBV.out; omega)
  have hc1 : 0 ≤ c0 ∧ c0 ≤ 31 := by omega
  have HCB := Lib.hid (fun k h => chI_bound (l := l) hc1.1 hc1.2 k h)
  have HSUB := Lib.hid hc0
  clear HFI HNO
  go_enter Tryz.func78, Tryz.ntmps78
  go_wp2_with fail
  go_loopw [3, 6] (fun v3 v6 wr => ∃ (k : Nat) (v : Int), 1 ≤ k ∧ k ≤ 4 ∧ v6 = .int .i64 (k : Int) ∧ v3 = .int .i64 v ∧ 0 ≤ v ∧ v ≤ 8388607 ∧ Hid (v = chI l c0 (k - 1)) ∧ Hid (∀ j, j + 1 < k → bN l (j + 1) / 64 = 2) ∧ wr = w) (fun _ v6 _ => 4 - (intOf v6).toNat)
  case atStart => exact ⟨1, c0, by omega, by omega, rfl, by rw [← HSUB.out], hc1.1, by omega, Lib.hid rfl, Lib.hid (fun j hj => by omega), rfl⟩
  case round =>
    obtain ⟨k, v, hk1, hkn, rfl, rfl, hv0, hv1, HV, HCT, rfl⟩ := hrel
    by_cases hk : k < 4
    · obtain ⟨x, hx⟩ : ∃ x, l[k]? = some x := ⟨l[k]'(by rw [HL.out]; omega), List.getElem?_eq_getElem _⟩
      obtain ⟨ad', p', had, hp', -, d1⟩ := by_cell S.out hx
      cases had
      have hxb := bN_at hx
      have hb2 := bN_lt l k
      rw [hxb] at d1
      have hkl : (k : Int) < (n : Int) := by omega
      have hkn' : (k : Int) < 4 := by omega
      obtain ⟨xv, hxv⟩ : ∃ xv, (bN l k : Int) = xv := ⟨_, rfl⟩
      rw [hxv] at d1
      have hx0 : 0 ≤ xv := by omega
      have hx1 : xv < 256 := by omega
      have HXV := Lib.hid hxv
      clear hx hxb hb2 hxv
      have HBK := Lib.hid (show (xv < 128 ∨ 192 ≤ xv) → charN l = 0 from fun h => HBAD.out (k - 1) (by show k - 1 + 1 < 4; omega) (by rw [show k - 1 + 1 = k by omega]; have := HXV.out; omega))
      by_cases hlo : xv < 128
      · have HC := Lib.hid (HBK.out (.inl hlo))
        go_wp2
        go_ret
        exact ⟨by rw [HC.out]; rfl, Below.refl _ _⟩
      by_cases hhi : 192 ≤ xv
      · have HC := Lib.hid (HBK.out (.inr hhi))
        go_wp2
        go_ret
        exact ⟨by rw [HC.out]; rfl, Below.refl _ _⟩
      · have HCT2 := Lib.hid (show ∀ j, j + 1 < k + 1 → bN l (j + 1) / 64 = 2 from fun j hj => by
          by_cases e : j + 1 = k
          · rw [e]; have := HXV.out; omega
          · exact HCT.out j (by omega))
        have HV2 := Lib.hid (show 64 * v + xv - 128 = chI l c0 (k + 1 - 1) by
          obtain ⟨m, rfl⟩ : ∃ m, k = m + 1 := ⟨k - 1, by omega⟩
          show _ = 64 * chI l c0 m + (bN l (m + 1) : Int) - 128
          rw [HXV.out, HV.out]; rfl)
        have hbd : 0 ≤ 64 * v + xv - 128 ∧ 64 * v + xv - 128 ≤ 8388607 := by
          have h1 := HCB.out (k + 1 - 1) (fun j hj => HCT2.out j (by omega))
          rw [← HV2.out] at h1
          have h2 : (64 : Int) ^ (k + 1 - 1) ≤ 262144 := by
            have h3 : (64 : Nat) ^ (k + 1 - 1) ≤ 64 ^ 3 := Nat.pow_le_pow_right (by decide) (by omega)
            have h4 : ((64 ^ (k + 1 - 1) : Nat) : Int) ≤ ((64 ^ 3 : Nat) : Int) := Int.ofNat_le.2 h3
            simpa using h4
          omega
        obtain ⟨hb1, hb2⟩ := hbd
        go_wp2
        exact ⟨⟨k + 1, 64 * v + xv - 128, by omega, by omega, by go_num, rfl, hb1, hb2, HV2, HCT2, trivial⟩, by simp [intOf]; omega⟩
    · have hkk : k = 4 := by omega
      subst hkk
      have HC := Lib.hid (show charN l = if ChBad l 65536 v then 0 else 4 by rw [HV.out, HFIN.out HCT.out, HC0.out])
      have HV3 := Lib.hid (show ChBad l 65536 v ↔ (v < 65536 ∨ 1114111 < v ∨ (55296 ≤ v ∧ v < 57344)) from Iff.rfl)
      by_cases a1 : v < 65536
      · have HC2 := Lib.hid (HC.out.trans (if_pos (HV3.out.2 (.inl a1))))
        go_wp2
        go_ret
        exact ⟨by rw [HC2.out]; rfl, Below.refl _ _⟩
      by_cases a2 : 1114111 < v
      · have HC2 := Lib.hid (HC.out.trans (if_pos (HV3.out.2 (.inr (.inl a2)))))
        go_wp2
        go_ret
        exact ⟨by rw [HC2.out]; rfl, Below.refl _ _⟩
      by_cases a3 : 55296 ≤ v
      · by_cases a4 : v < 57344
        · have HC2 := Lib.hid (HC.out.trans (if_pos (HV3.out.2 (.inr (.inr ⟨a3, a4⟩)))))
          go_wp2
          go_ret
          exact ⟨by rw [HC2.out]; rfl, Below.refl _ _⟩
        · have HC2 := Lib.hid (HC.out.trans (if_neg (fun h => by have := HV3.out.1 h; omega)))
          go_wp2
          go_ret
          exact ⟨by rw [HC2.out]; rfl, Below.refl _ _⟩
      · have HC2 := Lib.hid (HC.out.trans (if_neg (fun h => by have := HV3.out.1 h; omega)))
        go_wp2
        go_ret
        exact ⟨by rw [HC2.out]; rfl, Below.refl _ _⟩
end Go.Proofs.YtminegmjklehnaaGreatDoor.J

/-
  The document's reader of JSON: what stands behind a backslash.
-/
namespace Go.Proofs.YtminegmjklehnaaGreatDoor.J
open Go.RowKit Go.Proofs.YtminegmjklehnaaGreatDoor.B
open Go.Proofs.YtminegmjklehnaaGreatDoor.M hiding Bs
open Go.Proofs.YtminegmjklehnaaGreatDoor.C (QRow Turn)
set_option linter.unusedVariables false
set_option linter.unusedSimpArgs false

theorem mustS_hit (c : UInt8) (L : Bs) : mustS c (.ok (c :: L)) = .ok L := if_pos rfl
def errV : St → Int
  | .ok _ => 0
  | .error d => d
theorem RS.err {w : World} {rb : Nat} {b : Bs} {s : St} (h : RS w rb b s) : w.cell? ⟨rb, 2, none⟩ = some (.int .i64 (errV s)) := by
  cases s with
  | ok L =>
    obtain ⟨k, ⟨A, c, hg, _⟩, _⟩ := h
    exact cells_of hg 2 _ rfl
  | error d =>
    obtain ⟨h0, k, ⟨A, c, hg, _⟩⟩ := h
    exact cells_of hg 2 _ rfl
theorem RS.ne {w : World} {rb : Nat} {b : Bs} {d : Int} (h : RS w rb b (.error d)) : d ≠ 0 := h.1
def escNames : Bs := [34, 92, 47, 98, 102, 110, 114, 116]
def escMeans : Bs := [34, 92, 47, 8, 12, 10, 13, 9]
theorem esc_is : ∀ k : Fin 8, escOf (escNames.getD k.val 0) = some (escMeans.getD k.val 0) ∧ escNames.getD k.val 0 ≠ 0 := by decide
theorem esc_not {c : UInt8} (h : ∀ k, k < 8 → escNames.getD k 0 ≠ c) : escOf c = none := by
  have h0 := h 0 (by decide)
  have h1 := h 1 (by decide)
  have h2 := h 2 (by decide)
  have h3 := h 3 (by decide)
  have h4 := h 4 (by decide)
  have h5 := h 5 (by decide)
  have h6 := h 6 (by decide)
  have h7 := h 7 (by decide)
  simp only [escNames, List.getD_cons_zero, List.getD_cons_succ] at h0 h1 h2 h3 h4 h5 h6 h7
  unfold escOf
  rw [if_neg (by simpa using h0.symm), if_neg (by simpa using h1.symm), if_neg (by simpa using h2.symm), if_neg (by simpa using h3.symm), if_neg (by simpa using h4.symm), if_neg (by simpa using h5.symm), if_neg (by simpa using h6.symm), if_neg (by simpa using h7.symm)]
def descS : St → Except Int (Bs × Bs)
  | .ok L => escP L
  | .error e => .error e
/-- behind the names. -/
def uniS (s : St) : Except Int (Bs × Bs) := match dhS (mustS 117 s) with
  | .error e => .error e
  | .ok (n, M) => if 56320 ≤ n ∧ n < 57344 then .error 3 else if 55296 ≤ n ∧ n < 56320 then (match dhS (mustS 117 (mustS 92 (.ok M))) with
    | .error e => .error e
    | .ok (m, M3) => if m < 56320 ∨ 57344 ≤ m then .error 3 else .ok (utfB (65536 + (n - 55296) * 1024 + (m - 56320)), M3)) else .ok (utfB n, M)
theorem low_eq (n : Nat) (M : Bs) : lowP n M = match dhS (mustS 117 (mustS 92 (.ok M))) with
    | .error e => .error e
    | .ok (m, M3) => if m < 56320 ∨ 57344 ≤ m then .error 3 else .ok (utfB (65536 + (n - 55296) * 1024 + (m - 56320)), M3) := by
  match M with
  | [] => rfl
  | [a] =>
    by_cases h : a = 92
    · subst h; rfl
    · have e : mustS 92 (.ok [a]) = .error 3 := if_neg h
      rw [e]; rfl
  | a :: b :: L =>
    by_cases h : a = 92
    · subst h
      have e : mustS 92 (.ok (92 :: b :: L)) = .ok (b :: L) := mustS_hit _ _
      rw [e]
      by_cases h2 : b = 117
      · subst h2
        have e2 : mustS 117 (.ok (117 :: L)) = .ok L := mustS_hit _ _
        rw [e2]
        rfl
      · have e2 : mustS 117 (.ok (b :: L)) = .error 3 := if_neg h2
        rw [e2]
        show (if ((92 : UInt8) == 92 && b == 117) = true then _ else _) = _
        rw [if_neg (by simpa using h2)]
        rfl
    · have e : mustS 92 (.ok (a :: b :: L)) = .error 3 := if_neg h
      rw [e]
      show (if (a == 92 && b == 117) = true then _ else _) = _
      rw [if_neg (by simp [h])]
      rfl
theorem descS_uni {s : St} (h : ∀ k, k < 8 → ((escNames.getD k 0).toNat : Int) ≠ headV s) : descS s = uniS s := by
  cases s with
  | error d => rfl
  | ok L =>
    cases L with
    | nil => rfl
    | cons c L =>
      have hn : escOf c = none := esc_not (fun k hk e => h k hk (by rw [e]; rfl))
      show escP (c :: L) = _
      rw [escP_cons, hn]
      dsimp only
      unfold uniS
      by_cases h2 : c = 117
      · subst h2
        have e2 : mustS 117 (.ok (117 :: L)) = .ok L := mustS_hit _ _
        rw [e2, if_pos (by decide)]
        unfold uniP
        show (match hexP L with | .error e => _ | .ok (n, M) => _) = (match hexP L with | .error e => _ | .ok (n, M) => _)
        cases hexP L with
        | error e => rfl
        | ok q =>
          obtain ⟨n, M⟩ := q
          dsimp only
          rw [low_eq]
      · have e2 : mustS 117 (.ok (c :: L)) = .error 3 := if_neg h2
        rw [e2, if_neg (by simpa using h2)]
        rfl
/-- bytes that the call made, wherever they begin. -/
def BsM (w w' : World) (v : Value) (L : Bs) : Prop := ∃ g off c, v = .slice (some ⟨g, off, none⟩) L.length c ∧ w.heap.size ≤ g ∧ ∀ j u, (bc L)[j]? = some u → w'.cell? ((⟨g, off, none⟩ : Addr).add j) = some u
def EsRet (w : World) (rb : Nat) (b : Bs) (r : Except Int (Bs × Bs)) (e : Ending) (w' : World) : Prop := At rb w w' ∧ match r with
  | .ok (m, M) => (∃ v, e = .returned v ∧ BsM w w' v m) ∧ RS w' rb b (.ok M)
  | .error d => e = .returned (.slice none 0 0) ∧ RS w' rb b (.error d)
theorem utf_lit (b0 : Bs) (h : b0 = escMeans) : True := trivial
theorem names_at {k : Nat} (h : k < 8) : escNames[k]? = some (escNames.getD k 0) := by
  have : k < escNames.length := h
  rw [List.getD_eq_getElem?_getD, List.getElem?_eq_getElem this]; rfl
theorem lit_at {k : Nat} (hk : k < 8) : ∀ (h : k < (⟨#[34, 92, 47, 98, 102, 110, 114, 116]⟩ : ByteArray).size), (⟨#[34, 92, 47, 98, 102, 110, 114, 116]⟩ : ByteArray)[k]'h = escNames.getD k 0 := by
  intro h
  have : ∀ (k : Fin 8) (h : k.val < (⟨#[34, 92, 47, 98, 102, 110, 114, 116]⟩ : ByteArray).size), (⟨#[34, 92, 47, 98, 102, 110, 114, 116]⟩ : ByteArray)[k.val]'h = escNames.getD k.val 0 := by decide
  exact this ⟨k, hk⟩ h
theorem utf_any (k : Nat) (hk : k ≤ 1114111) (nv : Int) (h : nv = (k : Int)) (w : World) : Calls Tryz.prog 100 #[.int .i64 nv] w fun e w' => (∃ v, e = .returned v ∧ BsN w w' v (utfB k)) ∧ Below w.heap.size w w' := by
  subst h
  exact utf_calls k hk w
theorem means_row {W W' : World} {g : Nat} (h : W'.heap[g]? = some (.cells (bc escMeans).toArray 5 (0, 0))) (hg : W.heap.size ≤ g) {k : Nat} (hk : k < 8) (c : Nat) : BsM W W' (.slice (some ⟨g, k, none⟩) 1 c) [escMeans.getD k 0] := by
  refine ⟨g, k, c, rfl, hg, fun j u hu => ?_⟩
  have hj : j = 0 := by
    have := (List.getElem?_eq_some_iff.1 hu).1
    simp [bc] at this
    exact this
  subst hj
  rw [add_zero, cell_of_row _ _ _ _ _ (0, 0) h, ← hu]
  have hlen : k < escMeans.length := hk
  simp [bc, List.getD_eq_getElem?_getD, hlen]
theorem BsN.any {w w' : World} {v : Value} {L : Bs} (h : BsN w w' v L) : BsM w w' v L := by
  obtain ⟨g, c, h1, h2, h3⟩ := h
  exact ⟨g, 0, c, h1, h2, fun j u hu => by rw [Addr.add_lit, Nat.zero_add]; exact h3 j u hu⟩
theorem BsM.from {w0 w w' : World} {v : Value} {L : Bs} (h : BsM w w' v L) (hs : w0.heap.size ≤ w.heap.size) : BsM w0 w' v L := by
  obtain ⟨g, off, c, h1, h2, h3⟩ := h
  exact ⟨g, off, c, h1, Nat.le_trans hs h2, h3⟩
set_option maxRecDepth 100000 in
set_option maxHeartbeats 16000000 in
theorem rescape_calls {w : World} {rb : Nat} {b : Bs} {s : St} (h : RS w rb b s) : Calls Tryz.prog 77 #[.pointer (some ⟨rb, 0, none⟩)] w (EsRet w rb b (descS s)) := by
  have HN := Lib.hid (next_calls h)
  have hsz8 : escNames.length = 8 := rfl
  have hszs := sz escNames
  clear h
  go_enter Tryz.func77, Tryz.ntmps77
  go_wp2_with fail
  refine HN.out.mono ?_
  rintro e w1 ⟨rfl, hR, hB⟩
  have hb2 : Below w1.heap.size w1 (w1.alloc (.cells (bc escMeans).toArray 5)) := (Below.refl _ _).alloc (Nat.le_refl _) _
  have HR := Lib.hid (hR.below hb2)
  have HA := Lib.hid (At.below' (at_below (rb := rb) hB) hb2)
  have HML := Lib.hid (heap_alloc_new w1 (.cells (bc escMeans).toArray 5))
  have HSZ := Lib.hid hB.size
  have HRB := Lib.hid hR.lt
  clear hR hB hb2 HN
  go_wp2_with fail
  go_loopw [6] (fun v6 wr => ∃ k : Nat, k ≤ 8 ∧ v6 = .int .i64 k ∧ Hid (∀ j, j < k → ((escNames.getD j 0).toNat : Int) ≠ headV s) ∧ wr = (w1.alloc (.cells (bc escMeans).toArray 5))) (fun v6 _ => 8 - (intOf v6).toNat)
  case atStart => exact ⟨0, Nat.zero_le _, rfl, Lib.hid (fun j hj => by omega), rfl⟩
  case round =>
    obtain ⟨k, hk, rfl, HNO, rfl⟩ := hrel
    by_cases hk8 : k < 8
    · have hix := idxk (names_at hk8)
      obtain ⟨e1, e2⟩ := esc_is ⟨k, hk8⟩
      obtain ⟨ck, hck⟩ : ∃ ck, escNames.getD k 0 = ck := ⟨_, rfl⟩
      dsimp only at e1 e2
      rw [hck] at e1 e2
      have hlit : ((((⟨#[34, 92, 47, 98, 102, 110, 114, 116]⟩ : ByteArray)[k]'(show k < 8 from hk8)).toNat : Nat) : Int) = (ck.toNat : Int) := by rw [lit_at hk8, hck]
      have E1 := Lib.hid e1
      have E2 := Lib.hid e2
      have HCK := Lib.hid hck
      have hkl : (k : Int) < 8 := by omega
      clear e1 e2 hck
      by_cases heq : (ck.toNat : Int) = headV s
      · obtain ⟨L, rfl⟩ := headV_hit E2.out heq.symm
        have hb : (((((⟨#[34, 92, 47, 98, 102, 110, 114, 116]⟩ : ByteArray)[k]'(show k < 8 from hk8)).toNat : Nat) : Int) == headV (.ok (ck :: L))) = true := by rw [hlit, heq]; simp
        have HE := Lib.hid (show descS (.ok (ck :: L)) = .ok ([escMeans.getD k 0], L) by
          show escP (ck :: L) = _
          rw [escP_cons, E1.out])
        obtain ⟨q, g1, f1, hq, hR2, hA2⟩ := RS.step HR.out
        have HR2 := Lib.hid hR2
        have HA2 := Lib.hid (At.trans HA.out hA2)
        have HM2 := Lib.hid ((hA2.block w1.heap.size (lt_of_heap HML.out) (by have := HRB.out; omega)).trans HML.out)
        clear hR2 hA2 heq hlit
        generalize headV (.ok (ck :: L)) = hv at *
        go_wp2
        go_ret
        refine ⟨HA2.out, ?_⟩
        rw [HE.out]
        exact ⟨⟨_, rfl, means_row HM2.out HSZ.out hk8 _⟩, HR2.out⟩
      · have hb : (((((⟨#[34, 92, 47, 98, 102, 110, 114, 116]⟩ : ByteArray)[k]'(show k < 8 from hk8)).toNat : Nat) : Int) == headV s) = false := by rw [hlit]; exact beq_eq_false_iff_ne.2 heq
        have HNO2 := Lib.hid (show ∀ j, j < k + 1 → ((escNames.getD j 0).toNat : Int) ≠ headV s from fun j hj => by
          by_cases e : j = k
          · rw [e, HCK.out]; exact heq
          · exact HNO.out j (by omega))
        clear heq hlit
        go_wp2
        exact ⟨⟨k + 1, by omega, by go_num, HNO2, trivial⟩, by simp [intOf]; omega⟩
    · have hk' : k = 8 := by omega
      subst hk'
      have HE := Lib.hid (descS_uni HNO.out)
      have HMU := Lib.hid (rmust_calls HR.out 117 (by decide) 117 rfl)
      clear HNO
      go_wp2_with fail
      refine HMU.out.mono ?_
      rintro e w2 ⟨rfl, hR, hA⟩
      have HR2 := Lib.hid hR
      have HA2 := Lib.hid (At.trans HA.out hA)
      clear hR hA
      go_wp2_with fail
      refine (rhex_calls HR2.out).mono ?_
      rintro e w3 ⟨n, rfl, hA, hn0, hn1, hM⟩
      have HA3 := Lib.hid (At.trans HA2.out hA)
      have HS3 := Lib.hid (show w.heap.size ≤ w3.heap.size from HA3.out.size)
      clear hA HA2 HR2 HML HSZ HR HA
      obtain ⟨r, hr⟩ : ∃ r, dhS (mustS 117 s) = r := ⟨_, rfl⟩
      rw [hr] at hM
      have HE1 := Lib.hid (show descS s = _ from HE.out.trans (by unfold uniS; rw [hr]))
      clear hr HMU HE
      cases r with
      | error d =>
        obtain ⟨rfl, hR⟩ := hM
        have HR3 := Lib.hid hR
        have e2 := hR.err
        have hd : (errV (.error d) != 0) = true := bne_iff_ne.2 hR.ne
        have HE2 := Lib.hid (show descS s = .error d from HE1.out)
        clear hR
        go_wp2
        go_ret
        refine ⟨HA3.out, ?_⟩
        rw [HE2.out]
        exact ⟨rfl, HR3.out⟩
      | ok q =>
        obtain ⟨x, M⟩ := q
        obtain ⟨rfl, hR⟩ := hM
        dsimp only at HE1
        have HR3 := Lib.hid hR
        obtain ⟨xv, hxv⟩ : ∃ xv, (x : Int) = xv := ⟨_, rfl⟩
        rw [hxv] at hn0 hn1
        rw [hxv]
        have HXV := Lib.hid hxv
        clear hR hxv
        by_cases c1 : 56320 ≤ xv ∧ xv < 57344
        · obtain ⟨c1, c2⟩ := c1
          have HE2 := Lib.hid (show descS s = .error 3 from HE1.out.trans (if_pos (by have := HXV.out; omega)))
          have c3 : ¬ xv < 56320 := by omega
          have c4 : 55296 ≤ xv := by omega
          go_wp2_with fail
          refine (fail_calls HR3.out (d := 3) (by decide)).mono ?_
          rintro e w4 ⟨rfl, hR, hA⟩
          have HR4 := Lib.hid (show RS w4 rb b (.error 3) from hR)
          have HA4 := Lib.hid (At.trans HA3.out hA)
          have e2 := HR4.out.err
          have hd : (errV (.error 3) != 0) = true := rfl
          clear hR hA
          go_wp2
          go_ret
          refine ⟨HA4.out, ?_⟩
          rw [HE2.out]
          exact ⟨rfl, HR4.out⟩
        by_cases c2 : 55296 ≤ xv ∧ xv < 56320
        · obtain ⟨c2, c3⟩ := c2
          have HE2 := Lib.hid (show descS s = _ from HE1.out.trans ((if_neg (by have := HXV.out; omega)).trans (if_pos (by have := HXV.out; omega))))
          have c4 : ¬ 56320 ≤ xv := by omega
          clear HE1 c1
          go_wp2_with fail
          refine (rmust_calls HR3.out 92 (by decide) 92 rfl).mono ?_
          rintro e w4 ⟨rfl, hR, hA⟩
          have HR4 := Lib.hid hR
          have HA4 := Lib.hid (At.trans HA3.out hA)
          clear hR hA
          go_wp2_with fail
          refine (rmust_calls HR4.out 117 (by decide) 117 rfl).mono ?_
          rintro e w5 ⟨rfl, hR, hA⟩
          have HR5 := Lib.hid hR
          have HA5 := Lib.hid (At.trans HA4.out hA)
          clear hR hA
          go_wp2_with fail
          refine (rhex_calls HR5.out).mono ?_
          rintro e w6 ⟨m, rfl, hA, hm0, hm1, hM⟩
          have HA6 := Lib.hid (At.trans HA5.out hA)
          have HE3 := HE2.out
          clear hA HE2 HR4 HR5 HA4 HA5
          obtain ⟨r, hr⟩ : ∃ r, dhS (mustS 117 (mustS 92 (.ok M))) = r := ⟨_, rfl⟩
          rw [hr] at hM HE3
          clear hr
          cases r with
          | error d =>
            obtain ⟨rfl, hR⟩ := hM
            have HE2 := Lib.hid (show descS s = .error d from HE3)
            have HR6 := Lib.hid hR
            clear hR HE3
            go_wp2_with fail
            refine (fail_calls HR6.out (d := 3) (by decide)).mono ?_
            rintro e w7 ⟨rfl, hR, hA⟩
            have HR7 := Lib.hid (show RS w7 rb b (.error d) from hR)
            have HA7 := Lib.hid (At.trans HA6.out hA)
            have e2 := HR7.out.err
            have hd : (errV (.error d) != 0) = true := bne_iff_ne.2 HR7.out.ne
            clear hR hA
            go_wp2
            go_ret
            refine ⟨HA7.out, ?_⟩
            rw [HE2.out]
            exact ⟨rfl, HR7.out⟩
          | ok q =>
            obtain ⟨y, M3⟩ := q
            obtain ⟨rfl, hR⟩ := hM
            dsimp only at HE3
            have HE4 := Lib.hid HE3
            clear HE3
            have HR6 := Lib.hid hR
            obtain ⟨yv, hyv⟩ : ∃ yv, (y : Int) = yv := ⟨_, rfl⟩
            rw [hyv] at hm0 hm1
            rw [hyv]
            have HYV := Lib.hid hyv
            clear hR hyv
            by_cases d1 : yv < 56320
            · have HE2 := Lib.hid (show descS s = .error 3 from HE4.out.trans (if_pos (by have := HYV.out; omega)))
              go_wp2_with fail
              refine (fail_calls HR6.out (d := 3) (by decide)).mono ?_
              rintro e w7 ⟨rfl, hR, hA⟩
              have HR7 := Lib.hid (show RS w7 rb b (.error 3) from hR)
              have HA7 := Lib.hid (At.trans HA6.out hA)
              have e2 := HR7.out.err
              have hd : (errV (.error 3) != 0) = true := rfl
              clear hR hA
              go_wp2
              go_ret
              refine ⟨HA7.out, ?_⟩
              rw [HE2.out]
              exact ⟨rfl, HR7.out⟩
            by_cases d2 : 57344 ≤ yv
            · have HE2 := Lib.hid (show descS s = .error 3 from HE4.out.trans (if_pos (by have := HYV.out; omega)))
              go_wp2_with fail
              refine (fail_calls HR6.out (d := 3) (by decide)).mono ?_
              rintro e w7 ⟨rfl, hR, hA⟩
              have HR7 := Lib.hid (show RS w7 rb b (.error 3) from hR)
              have HA7 := Lib.hid (At.trans HA6.out hA)
              have e2 := HR7.out.err
              have hd : (errV (.error 3) != 0) = true := rfl
              clear hR hA
              go_wp2
              go_ret
              refine ⟨HA7.out, ?_⟩
              rw [HE2.out]
              exact ⟨rfl, HR7.out⟩
            · have HE2 := Lib.hid (show descS s = .ok (utfB (65536 + (x - 55296) * 1024 + (y - 56320)), M3) from HE4.out.trans (if_neg (by have := HYV.out; omega)))
              have e2 := HR6.out.err
              have hd : (errV (.ok M3) != 0) = false := rfl
              have HU := Lib.hid (fun W => utf_any (65536 + (x - 55296) * 1024 + (y - 56320)) (by have := HYV.out; have := HXV.out; omega) (65536 + (xv - 55296) * 1024 + yv - 56320) (by have := HYV.out; have := HXV.out; omega) W)
              clear HE4
              go_wp2_with fail
              refine (HU.out _).mono ?_
              rintro e w7 ⟨⟨v, rfl, hv⟩, hB⟩
              have HR7 := Lib.hid (HR6.out.below hB)
              have HA7 := Lib.hid (At.below' HA6.out hB)
              have HV7 := Lib.hid (hv.any.from HA6.out.size)
              clear hv hB
              go_wp2
              go_ret
              refine ⟨HA7.out, ?_⟩
              rw [HE2.out]
              exact ⟨⟨_, rfl, HV7.out⟩, HR7.out⟩
        · have HE2 := Lib.hid (show descS s = .ok (utfB x, M) from HE1.out.trans ((if_neg (by have := HXV.out; omega)).trans (if_neg (by have := HXV.out; omega))))
          have e2 := HR3.out.err
          have hd : (errV (.ok M) != 0) = false := rfl
          have HU := Lib.hid (fun W => utf_any x (by have := HXV.out; omega) xv (by have := HXV.out; omega) W)
          have hcc : xv < 55296 ∨ (57344 ≤ xv ∧ 56320 ≤ xv ∧ 55296 ≤ xv) := by omega
          clear HE1 c1 c2
          rcases hcc with hcc | ⟨hc1, hc2, hc3⟩
          all_goals
            go_wp2_with fail
            refine (HU.out _).mono ?_
            rintro e w7 ⟨⟨v, rfl, hv⟩, hB⟩
            have HR7 := Lib.hid (HR3.out.below hB)
            have HA7 := Lib.hid (At.below' HA3.out hB)
            have HV7 := Lib.hid (hv.any.from HA3.out.size)
            clear hv hB
            go_wp2
            go_ret
            refine ⟨HA7.out, ?_⟩
            rw [HE2.out]
            exact ⟨⟨_, rfl, HV7.out⟩, HR7.out⟩
end Go.Proofs.YtminegmjklehnaaGreatDoor.J

/-
  The document's reader of JSON: text.
-/
namespace Go.Proofs.YtminegmjklehnaaGreatDoor.J
open Go.RowKit Go.Proofs.YtminegmjklehnaaGreatDoor.B
open Go.Proofs.YtminegmjklehnaaGreatDoor.M hiding Bs
open Go.Proofs.YtminegmjklehnaaGreatDoor.C (QRow Turn)
set_option linter.unusedVariables false
set_option linter.unusedSimpArgs false

def tgo (acc : Bs) : St → Except Int (Bs × Bs)
  | .ok K => textGo (K.length + 1) acc K
  | .error e => .error e
def dtextS : St → Except Int (Bs × Bs)
  | .ok L => textP L
  | .error e => .error e
theorem dtextS_must (s : St) : dtextS s = tgo [] (mustS 34 s) := by
  cases s with
  | error d => rfl
  | ok L =>
    cases L with
    | nil => rfl
    | cons c L =>
      show textP (c :: L) = _
      rw [textP_cons]
      by_cases h : c = 34
      · subst h
        rw [mustS_hit, if_pos (by decide)]
        rfl
      · have e : mustS 34 (.ok (c :: L)) = .error 3 := if_neg h
        rw [e, if_neg (by simpa using h)]
        rfl
theorem bc_ones (L : Bs) : ∀ u ∈ bc L, u.oneCell' = true := by
  intro u hu
  obtain ⟨b, -, rfl⟩ := List.mem_map.1 hu
  rfl
theorem append_nil_src {P : Program} {w : World} {ops : Array Oper} {rest : List Oper} {o : Oper} {a : Act} {Q : Exit → Act → World → Prop} (hgd : o.guard = none) (s x : Operand) (t : TypeId)
    (ho : o.op = .call { callee := .builtin .append, args := #[s, x], argTypes := #[t, t] }) (e : TypeId) (i : TypeInfo) (ht : P.underlying t = some (.slice e)) (hi : P.info? e = some i) (base : Nat) (v : Value) (n : Nat) (xs : List Value) (hs : a.eval s = v) (hown : w.ownsRow base e 1 v n xs)
    (hx : a.eval x = .slice none 0 0) (h : wpList P ops Q rest (a.put o.dst v) w) : wpList P ops Q (o :: rest) a w := by
  have hr : (Builtin.append_ #[t, t] o.type #[v, .slice none 0 0]).run P w = .ok v w := by
    rcases hown.2 with ⟨rfl, h0⟩ | ⟨g, cap, cur, rfl, h1, h2, h3, h4⟩
    · simp [Builtin.append_, run_underlying ht, sizeOf, typeInfo, hi, Builtin.lenOf, Builtin.firstCells, storeCells]
    · simp [Builtin.append_, run_underlying ht, sizeOf, typeInfo, hi, Builtin.lenOf, Builtin.firstCells, h3, storeCells]
  refine wpList_plain hgd fun K hK => ?_
  unfold Oper.wp
  simp [execOp, ho, resolve, invoke, builtin, hs, hx, hr, Result.andThen]
  exact hK _ _ h
theorem sl_drop {w : World} {F : Nat → Prop} {l : Bs} {ad : Addr} {n : Nat} (h : SlV w F 1 ByR l (some ad) n) (k : Nat) : SlV w F 1 ByR (l.drop k) (some (ad.add k)) (n - k) := by
  refine ⟨by rw [List.length_drop, h.1], Nat.le_trans (Nat.sub_le _ _) h.2.1, fun j x hx => ?_⟩
  rw [List.getElem?_drop] at hx
  obtain ⟨a, b, cs, h1, h2, h3⟩ := h.2.2 _ x hx
  cases h1
  refine ⟨_, b, cs, rfl, ?_, h3⟩
  rw [← h2, Nat.mul_one, Nat.mul_one]
  unfold Addr.add
  split <;> split <;> split <;> simp_all <;> omega
theorem by_cells {w : World} {F : Nat → Prop} {l : Bs} {ad : Addr} {n : Nat} (h : SlV w F 1 ByR l (some ad) n) (m : Nat) : ∀ j u, (bc (l.take m))[j]? = some u → w.cell? (ad.add j) = some u := by
  intro j u hu
  have hu' : ∃ x, (l.take m)[j]? = some x ∧ u = .int .u8 (x.toNat : Int) := by
    unfold bc at hu
    rw [List.getElem?_map] at hu
    obtain ⟨x, h1, h2⟩ := Option.map_eq_some_iff.1 hu
    exact ⟨x, h1, h2.symm⟩
  obtain ⟨x, hx, rfl⟩ := hu'
  rw [List.getElem?_take] at hx
  split at hx
  · obtain ⟨a, p, h1, h2, h3, h4⟩ := by_cell h hx
    cases h1
    rw [h2]; exact h4
  · cases hx
theorem RS.keptB {w w' : World} {rb : Nat} {b : Bs} {s : St} (h : RS w rb b s) (hk : ∀ (a : Addr) (v : Value), a.block < rb → w.cell? a = some v → w'.cell? a = some v) (hb : w'.heap[rb]? = w.heap[rb]?) : RS w' rb b s := by
  have key : ∀ {k : Nat} {e : Int}, R0 w rb b k e → R0 w' rb b k e := by
    rintro k e ⟨A, c, h1, h2, h3⟩
    exact ⟨A, c, hb.trans h1, h2.keep (by decide) (fun _ h _ => h) (fun a v ha hv => hk a v ha hv) (fun _ _ h => h), h3⟩
  cases s with
  | ok L => obtain ⟨k, h1, h2⟩ := h; exact ⟨k, key h1, h2⟩
  | error d => obtain ⟨h0, k, h1⟩ := h; exact ⟨h0, k, key h1⟩
theorem grown_at {w w5 w6 : World} {rb : Nat} {v : Value} {n : Nat} {xs : List Value} (hA : At rb w w5) (ho : w5.ownsRow w.heap.size 5 1 v n xs) (hrl : rb < w.heap.size) (hg : w5.grownBy w6 v.ownBlock) : At rb w w6 ∧ ∀ {b : Bs} {s : St}, RS w5 rb b s → RS w6 rb b s := by
  have hown : ∀ k, v.ownBlock = some k → w.heap.size ≤ k := fun k hk => by
    rcases ho.2 with ⟨rfl, -⟩ | ⟨g, cap, cur, rfl, h1, -⟩
    · cases hk
    · cases hk; exact h1
  have hT : Turn (fun k => w.heap.size ≤ k) w5 w6 := Turn.grown hg (fun k hk => hown k hk)
  have hb : ∀ g, g < w.heap.size → w6.heap[g]? = w5.heap[g]? := fun g hgl => hg.block g (Nat.lt_of_lt_of_le hgl hA.size) (fun e => by have := hown g e.symm; omega)
  exact ⟨Turn.trans hA hT (fun k hk hlt => by omega), fun h => h.keptB (fun a v ha hv => by rw [cell_congr (hb _ (by omega))]; exact hv) (hb rb hrl)⟩
def TxRet (w : World) (rb : Nat) (b : Bs) (r : Except Int (Bs × Bs)) (e : Ending) (w' : World) : Prop := At rb w w' ∧ match r with
  | .ok (t, M) => e = .returned (vs t) ∧ RS w' rb b (.ok M)
  | .error d => (∃ t, e = .returned (vs t)) ∧ RS w' rb b (.error d)
set_option maxRecDepth 100000 in
set_option maxHeartbeats 16000000 in
theorem rtext_calls {w : World} {rb : Nat} {b : Bs} {s : St} (h : RS w rb b s) : Calls Tryz.prog 50 #[.pointer (some ⟨rb, 0, none⟩)] w (TxRet w rb b (dtextS s)) := by
  obtain ⟨i0, hi, hz0, hz1, hz2⟩ := info_parts infoByte
  have HI := Lib.hid hi; clear hi
  have HZ0 := Lib.hid hz0; clear hz0
  have HZ1 := Lib.hid hz1; clear hz1
  have HZ2 := Lib.hid hz2; clear hz2
  have hrl := h.lt
  have HMU := Lib.hid (rmust_calls h 34 (by decide) 34 rfl)
  have HDT := Lib.hid (dtextS_must s)
  have hbs := h.small
  clear h
  go_enter Tryz.func50, Tryz.ntmps50
  go_wp2_with fail
  refine HMU.out.mono ?_
  rintro e w1 ⟨rfl, hR, hA⟩
  have HR1 := Lib.hid hR
  have HA1 := Lib.hid hA
  obtain ⟨s1, hs1⟩ : ∃ s1, mustS 34 s = s1 := ⟨_, rfl⟩
  rw [hs1] at HR1 HDT
  have hl1 : stLen s1 ≤ 100000 := by
    cases s1 with
    | ok L => exact HR1.out.len
    | error d => exact Nat.zero_le _
  clear hR hA HMU hs1
  go_wp2_with fail
  go_loopg [3, 4, 5] (stLen s1) (fun q v3 v4 v5 wr => ∃ (acc : Bs) (s' : St), stLen s' = q ∧ Hid (wr.ownsRow w.heap.size 5 1 v3 acc.length (bc acc)) ∧ Hid (RS wr rb b s') ∧ Hid (At rb w wr) ∧ Hid (tgo acc s' = dtextS s) ∧ acc.length + 4 * stLen s' ≤ 400000)
  case atStart => exact ⟨[], s1, rfl, Lib.hid (World.ownsRow_nil _ _ _ _), HR1, HA1, Lib.hid HDT.out.symm, by simp; omega⟩
  case round =>
    clear HR1 HA1 HDT
    obtain ⟨acc, s', hq, HO, HR, HA, HE, hbnd⟩ := hrel
    have HQ := Lib.hid hq
    clear hq
    have hec := HR.out.err
    cases s' with
    | error d =>
      have hd : (errV (.error d) == 0) = false := beq_eq_false_iff_ne.2 HR.out.ne
      have HE2 := Lib.hid (show dtextS s = .error d from HE.out.symm)
      go_wp2_with fail
      refine (rmust_calls HR.out 34 (by decide) 34 rfl).mono ?_
      rintro e w2 ⟨rfl, hR, hA⟩
      have HR2 := Lib.hid (show RS w2 rb b (.error d) from hR)
      have HA2 := Lib.hid (At.trans HA.out hA)
      have hcv := row_conv (row_at HO.out hA hrl)
      clear hR hA
      go_wp2
      go_ret
      refine ⟨HA2.out, ?_⟩
      rw [HE2.out]
      exact ⟨⟨_, rfl⟩, HR2.out⟩
    | ok K =>
      have hd : (errV (.ok K) == 0) = true := rfl
      cases K with
      | nil =>
        have hh : headV (.ok []) = 0 := rfl
        have HE2 := Lib.hid (show dtextS s = .error 3 from HE.out.symm)
        go_wp2_with fail
        refine (next_calls HR.out).mono ?_
        rintro e w2 ⟨rfl, hR, hB⟩
        have HR2 := Lib.hid hR
        have HA2 := Lib.hid (At.below' HA.out hB)
        have HO2 := Lib.hid (row_at HO.out (at_below (rb := rb) hB) hrl)
        rw [hh]
        clear hR hB hec
        go_wp2_with fail
        refine (next_calls HR2.out).mono ?_
        rintro e w3 ⟨rfl, hR, hB⟩
        rw [hh]
        have HR3 := Lib.hid hR
        have HA3 := Lib.hid (At.below' HA2.out hB)
        have HO3 := Lib.hid (row_at HO2.out (at_below (rb := rb) hB) hrl)
        obtain ⟨k, ⟨A, c, hg, hsl, hkb, hb5, hcap⟩, hdr⟩ := hR
        obtain ⟨g0, g1, g2⟩ := three_of hg
        have hz : b.length - k = 0 := by
          have := congrArg List.length hdr
          simpa using this
        have hbd : Below w3.heap.size w3 w3.drew := below_drewN (Below.refl _ w3) 1
        have HA3D := Lib.hid (At.below' HA3.out hbd)
        have HR3D := Lib.hid (HR3.out.below hbd)
        have HO3D := Lib.hid (row_at HO3.out (at_below (rb := rb) hbd) hrl)
        have HZ := Lib.hid hz
        have hck : k < c ∨ k = c := by omega
        clear hB hg hsl hdr hz hbd
        rcases hck with hck | rfl
        all_goals
          go_wp2
          go_still_tail 9, (by kernel_rfl)
          change wpList _ _ _ _ _ w3.drew
          generalize w3.drew = wd at *
          clear g0 g1 g2
          go_wp2_with fail
          all_goals
            try rw [HZ.out]
            refine (char_calls (l := []) (F := fun _ => True) ⟨rfl, Nat.zero_le _, fun k x hx => by simp at hx⟩).mono ?_
            rintro e w4 ⟨rfl, hB⟩
            have HR4 := Lib.hid (HR3D.out.below hB)
            have HA4 := Lib.hid (At.below' HA3D.out hB)
            have HO4 := Lib.hid (row_at HO3D.out (at_below (rb := rb) hB) hrl)
            have hcn : ((charN [] : Nat) : Int) = 0 := rfl
            rw [hcn]
            clear hB
            go_wp2_with fail
            refine (fail_calls HR4.out (d := 3) (by decide)).mono ?_
            rintro e w5 ⟨rfl, hR, hA⟩
            have HR5 := Lib.hid (show RS w5 rb b (.error 3) from hR)
            have HA5 := Lib.hid (At.trans HA4.out hA)
            have HO5 := Lib.hid (row_at HO4.out hA hrl)
            clear hR hA
            go_wp2_with fail
            refine (rmust_calls HR5.out 34 (by decide) 34 rfl).mono ?_
            rintro e w6 ⟨rfl, hR, hA⟩
            have HR6 := Lib.hid (show RS w6 rb b (.error 3) from hR)
            have HA6 := Lib.hid (At.trans HA5.out hA)
            have hcv := row_conv (row_at HO5.out hA hrl)
            clear hR hA
            go_wp2
            go_ret
            refine ⟨HA6.out, ?_⟩
            rw [HE2.out]
            exact ⟨⟨_, rfl⟩, HR6.out⟩
      | cons c K =>
        by_cases h34 : c = 34
        · subst h34
          have hh : headV (.ok (34 :: K)) = 34 := rfl
          have HE2 := Lib.hid (show dtextS s = .ok (acc, K) from HE.out.symm)
          go_wp2_with fail
          refine (next_calls HR.out).mono ?_
          rintro e w2 ⟨rfl, hR, hB⟩
          have HR2 := Lib.hid hR
          have HA2 := Lib.hid (At.below' HA.out hB)
          have HO2 := Lib.hid (row_at HO.out (at_below (rb := rb) hB) hrl)
          rw [hh]
          clear hR hB hec
          go_wp2_with fail
          refine (rmust_calls HR2.out 34 (by decide) 34 rfl).mono ?_
          rintro e w3 ⟨rfl, hR, hA⟩
          have HR3 := Lib.hid (show RS w3 rb b (.ok K) by rw [mustS_hit] at hR; exact hR)
          have HA3 := Lib.hid (At.trans HA2.out hA)
          have hcv := row_conv (row_at HO2.out hA hrl)
          clear hR hA
          go_wp2
          go_ret
          refine ⟨HA3.out, ?_⟩
          rw [HE2.out]
          exact ⟨rfl, HR3.out⟩
        obtain ⟨cv, hcv⟩ : ∃ cv, (c.toNat : Int) = cv := ⟨_, rfl⟩
        have hh : headV (.ok (c :: K)) = cv := hcv
        have t34 : (cv != 34) = true := bne_iff_ne.2 (fun e => h34 (nat_eq (by rw [hcv, e]; rfl)))
        have hc0 : 0 ≤ cv := by omega
        have hc1 : cv < 256 := by have := c.toNat_lt; omega
        have HCV := Lib.hid hcv
        clear hcv
        go_wp2_with fail
        refine (next_calls HR.out).mono ?_
        rintro e w2 ⟨rfl, hR, hB⟩
        have HR2 := Lib.hid hR
        have HA2 := Lib.hid (At.below' HA.out hB)
        have HO2 := Lib.hid (row_at HO.out (at_below (rb := rb) hB) hrl)
        rw [hh]
        clear hR hB hec
        go_wp2_with fail
        refine (next_calls HR2.out).mono ?_
        rintro e w3 ⟨rfl, hR, hB⟩
        rw [hh]
        have HR3 := Lib.hid hR
        have HA3 := Lib.hid (At.below' HA2.out hB)
        have HO3 := Lib.hid (row_at HO2.out (at_below (rb := rb) hB) hrl)
        clear hR hB HR2 HA2 HO2 HR HA HO
        have HBND := Lib.hid (show acc.length + 4 * (K.length + 1) ≤ 400000 from hbnd)
        clear hbnd
        by_cases h92 : c = 92
        · subst h92
          have h92v : cv = 92 := HCV.out.symm
          subst h92v
          obtain ⟨q, g1, f1, hq, hR2, hA2⟩ := RS.step HR3.out
          have HR4 := Lib.hid hR2
          have HA4 := Lib.hid (At.trans HA3.out hA2)
          have HO4 := Lib.hid (row_at HO3.out hA2 hrl)
          clear hR2 hA2
          go_wp2_with fail
          refine (rescape_calls HR4.out).mono ?_
          intro e w5 h5
          obtain ⟨hA, hM⟩ := h5
          have HA5 := Lib.hid (At.trans HA4.out hA)
          have HO5 := Lib.hid (row_at HO4.out hA hrl)
          cases he : escP K with
          | error d =>
            have hM : e = .returned (.slice none 0 0) ∧ RS w5 rb b (.error d) := by
              have : descS (.ok K) = .error d := he
              rw [this] at hM
              exact hM
            obtain ⟨rfl, hR⟩ := hM
            have HR5 := Lib.hid hR
            have HE2 := Lib.hid (show tgo acc (.error d) = dtextS s by rw [← HE.out]; exact (textGo_ebad _ he).symm)
            have HL := Lib.hid (show 0 < gk by have := HQ.out; unfold stLen at this; simp at this; omega)
            have HB2 := Lib.hid (show acc.length + 4 * stLen (.error d) ≤ 400000 by have := HBND.out; show acc.length + 4 * 0 ≤ _; omega)
            clear hR hA he
            go_wp2_with (at_builtin; refine append_nil_src rfl _ _ 22 rfl 5 i0 Tryz.underlying22 HI.out _ _ _ _ rfl HO5.out rfl ?_)
            go_wp2
            go_roundg (0)
            case measure => exact HL.out
            case rel => exact ⟨acc, .error d, rfl, HO5, HR5, HA5, HE2, HB2.out⟩
          | ok p =>
            obtain ⟨m, N⟩ := p
            have hM : (∃ W0 v, e = .returned v ∧ BsM W0 w5 v m) ∧ RS w5 rb b (.ok N) := by
              have : descS (.ok K) = .ok (m, N) := he
              rw [this] at hM
              exact ⟨⟨_, hM.1⟩, hM.2⟩
            obtain ⟨⟨W0, v, rfl, g, off, cp, rfl, hge, hcells⟩, hR⟩ := hM
            have HR5 := Lib.hid hR
            have HC := Lib.hid hcells
            have hm4 := esc_len he
            have hmn := esc_less he
            have HE2 := Lib.hid (show tgo (acc ++ m) (.ok N) = dtextS s by rw [← HE.out]; exact (textGo_e he).symm)
            have HL := Lib.hid (show N.length < gk by have := HQ.out; unfold stLen at this; simp at this; omega)
            have HB2 := Lib.hid (show (acc ++ m).length + 4 * stLen (.ok N) ≤ 400000 by have := HBND.out; show (acc ++ m).length + 4 * N.length ≤ _; rw [List.length_append]; omega)
            have hal : acc.length ≤ 400000 := by have := HBND.out; omega
            have HSZ5 := Lib.hid HA5.out.size
            clear hR hA he hge hcells hmn
            go_wp2_with (at_builtin; refine wpList_append_own _ rfl _ _ 22 rfl w.heap.size 5 i0 (.int .u8 0) 1 1 Tryz.underlying22 HI.out HZ0.out HZ1.out HZ2.out rfl (by decide) _ _ _ rfl HO5.out ⟨g, off, none⟩ m.length cp (bc m) rfl ?c0 ?c1 ?c2 ?c3 ?c4 ?c5 ?_)
            case c0 => simp
            case c1 => exact HC.out
            case c2 => intro u hu; simp at hu; obtain ⟨b, -, rfl⟩ := hu; rfl
            case c3 => unfold maxLen; omega
            case c4 => omega
            case c5 => exact HSZ5.out
            intro v6 w6 ho6 hg6 _
            have hT6 := grown_at HA5.out HO5.out hrl hg6
            have HO6 := Lib.hid (show w6.ownsRow w.heap.size 5 1 v6 (acc ++ m).length (bc (acc ++ m)) by simpa using ho6)
            have HR6 := Lib.hid (hT6.2 HR5.out)
            have HA6 := Lib.hid hT6.1
            clear ho6 hg6 hT6
            go_wp2
            go_roundg (N.length)
            case measure => exact HL.out
            case rel => exact ⟨acc ++ m, .ok N, rfl, HO6, HR6, HA6, HE2, HB2.out⟩
        have t92 : (cv == 92) = false := beq_eq_false_iff_ne.2 (fun e => h92 (nat_eq (by rw [HCV.out, e]; rfl)))
        have HR3' := HR3.out
        obtain ⟨k, ⟨A, cp, hg, hsl, hkb, hb5, hcap⟩, hdr⟩ := HR3'
        obtain ⟨g0, g1, g2⟩ := three_of hg
        obtain ⟨hkl, hkx, -⟩ := drop_cons hdr
        obtain ⟨ad, p, rfl, -, -, -⟩ := by_cell hsl hkx
        have hbd : Below w3.heap.size w3 w3.drew := below_drewN (Below.refl _ w3) 1
        have HA3D := Lib.hid (At.below' HA3.out hbd)
        have HR3D := Lib.hid (HR3.out.below hbd)
        have HO3D := Lib.hid (row_at HO3.out (at_below (rb := rb) hbd) hrl)
        have HSD := Lib.hid (show SlV w3.drew (fun g => g < rb) 1 ByR (c :: K) (some (ad.add k)) (b.length - k) by
          have := sl_drop (hsl.below (by decide) hbd (fun _ _ h => h)) k
          rw [hdr] at this
          exact this)
        have hck : k < cp := by omega
        clear hg hsl hdr hbd hkx
        go_wp2
        go_still_tail 9, (by kernel_rfl)
        change wpList _ _ _ _ _ w3.drew
        generalize w3.drew = wd at *
        clear g0 g1 g2
        go_wp2_with fail
        refine (char_calls HSD.out).mono ?_
        rintro e w4 ⟨rfl, hB⟩
        have HR4 := Lib.hid (HR3D.out.below hB)
        have HA4 := Lib.hid (At.below' HA3D.out hB)
        have HO4 := Lib.hid (row_at HO3D.out (at_below (rb := rb) hB) hrl)
        obtain ⟨hcl1, hcl2⟩ := charN_le (c :: K)
        obtain ⟨cn, hcn⟩ : ∃ cn, charN (c :: K) = cn := ⟨_, rfl⟩
        have HCN := Lib.hid hcn
        have HCL := Lib.hid hcl1
        rw [hcn] at hcl2 HCL
        rw [hcn]
        have hkn : k + cn ≤ b.length := by
          have h1 := HSD.out.1
          have h2 := HCL.out
          omega
        clear hB hcn hcl1 HR3D HA3D HO3D HSD HR3 HA3 HO3
        by_cases hbad : cn = 0 ∨ cv < 32
        · have HE2 := Lib.hid (show dtextS s = .error 3 by
            rw [← HE.out]
            exact textGo_bad _ h34 h92 (by have := HCN.out; have := HCV.out; omega))
          have hway : cn = 0 ∨ (cn ≠ 0 ∧ cv < 32) := by omega
          clear hbad
          rcases hway with rfl | ⟨hn0, hlow⟩
          · go_wp2_with fail
            refine (fail_calls HR4.out (d := 3) (by decide)).mono ?_
            rintro e w5 ⟨rfl, hR, hA⟩
            have HR5 := Lib.hid (show RS w5 rb b (.error 3) from hR)
            have HA5 := Lib.hid (At.trans HA4.out hA)
            have HO5 := Lib.hid (row_at HO4.out hA hrl)
            clear hR hA
            go_wp2_with fail
            refine (rmust_calls HR5.out 34 (by decide) 34 rfl).mono ?_
            rintro e w6 ⟨rfl, hR, hA⟩
            have HR6 := Lib.hid (show RS w6 rb b (.error 3) from hR)
            have HA6 := Lib.hid (At.trans HA5.out hA)
            have hcv := row_conv (row_at HO5.out hA hrl)
            clear hR hA
            go_wp2
            go_ret
            refine ⟨HA6.out, ?_⟩
            rw [HE2.out]
            exact ⟨⟨_, rfl⟩, HR6.out⟩
          · have hnb : ((cn : Int) == 0) = false := beq_eq_false_iff_ne.2 (by omega)
            go_wp2_with fail
            refine (fail_calls HR4.out (d := 3) (by decide)).mono ?_
            rintro e w5 ⟨rfl, hR, hA⟩
            have HR5 := Lib.hid (show RS w5 rb b (.error 3) from hR)
            have HA5 := Lib.hid (At.trans HA4.out hA)
            have HO5 := Lib.hid (row_at HO4.out hA hrl)
            clear hR hA
            go_wp2_with fail
            refine (rmust_calls HR5.out 34 (by decide) 34 rfl).mono ?_
            rintro e w6 ⟨rfl, hR, hA⟩
            have HR6 := Lib.hid (show RS w6 rb b (.error 3) from hR)
            have HA6 := Lib.hid (At.trans HA5.out hA)
            have hcv := row_conv (row_at HO5.out hA hrl)
            clear hR hA
            go_wp2
            go_ret
            refine ⟨HA6.out, ?_⟩
            rw [HE2.out]
            exact ⟨⟨_, rfl⟩, HR6.out⟩
        have HE2 := Lib.hid (show tgo (acc ++ (c :: K).take cn) (.ok ((c :: K).drop cn)) = dtextS s by
          rw [← HE.out, ← HCN.out]
          exact (textGo_c h34 h92 (by have := HCN.out; have := HCV.out; omega)).symm)
        have hn0 : 1 ≤ cn := by omega
        have hnb : ((cn : Int) == 0) = false := beq_eq_false_iff_ne.2 (by omega)
        have hlow : ¬ cv < 32 := by omega
        clear hbad
        have HR4' := HR4.out
        obtain ⟨k2, ⟨A2, cp2, hg, hsl, hkb2, hb52, hcap2⟩, hdr⟩ := HR4'
        obtain ⟨g0, g1, g2⟩ := three_of hg
        have f1 := frz_of hg 1
        obtain ⟨hkl2, hkx, -⟩ := drop_cons hdr
        obtain ⟨ad2, p2, rfl, -, -, -⟩ := by_cell hsl hkx
        have hbd : Below w4.heap.size w4 w4.drew := below_drewN (Below.refl _ w4) 1
        have HA4D := Lib.hid (At.below' HA4.out hbd)
        have HR4D := Lib.hid (HR4.out.below hbd)
        have HO4D := Lib.hid (row_at HO4.out (at_below (rb := rb) hbd) hrl)
        have hsd : SlV w4.drew (fun g => g < rb) 1 ByR (c :: K) (some (ad2.add k2)) (b.length - k2) := by
          have := sl_drop (hsl.below (by decide) hbd (fun _ _ h => h)) k2
          rw [hdr] at this
          exact this
        have hkn2 : k2 + cn ≤ b.length := by
          have h1 := hsd.1
          have h2 := HCL.out
          omega
        have HCC := Lib.hid (by_cells hsd cn)
        have HTL := Lib.hid (show (bc ((c :: K).take cn)).length = cn * 1 by
          have h2 := HCL.out
          simp only [bc, List.length_map, List.length_take]
          omega)
        have hck2 : k2 < cp2 := by omega
        obtain ⟨M, hM⟩ : ∃ M, k2 + cn = M := ⟨_, rfl⟩
        have hsum : (k2 : Int) + (cn : Int) = (M : Int) := by omega
        have hwrap : IntKind.i64.wrap (M : Int) = (M : Int) := IntWalk.i64_in _ ⟨by omega, by omega⟩
        have hne2 : ¬ cp2 = k2 := by omega
        have hkM : k2 ≤ M := by omega
        have hMc : M ≤ cp2 := by omega
        have hMb : M ≤ b.length := by omega
        have HMM := Lib.hid hM
        clear hM hkn2
        clear hg hsl hdr hbd hkx hsd
        go_wp2
        go_still_tail 16, (by kernel_rfl)
        change wpList _ _ _ _ _ w4.drew
        generalize w4.drew = wd2 at *
        have hal : acc.length ≤ 400000 := by have := HBND.out; omega
        have HSZ4 := Lib.hid HA4D.out.size
        have hMk : M - k2 = cn := by have := HMM.out; omega
        have HTL2 := Lib.hid (show (bc ((c :: K).take cn)).length = (M - k2) * 1 by rw [hMk]; exact HTL.out)
        have HMK := Lib.hid hMk
        have hmk4 : M - k2 ≤ 4 := by omega
        have HTK := Lib.hid (show ((c :: K).take cn).length = cn by
          have h2 := HCL.out
          rw [List.length_take]
          omega)
        have HRX := Lib.hid (show ∀ W, RS W rb b (.ok (c :: K)) → ∃ q : Nat, W.cell? ⟨rb, 1, none⟩ = some (.int .i64 (q : Int)) ∧ W.frozen? ⟨rb, 1, none⟩ = false ∧ q + cn ≤ b.length ∧ RS (W.setCell ⟨rb, 1, none⟩ (.int .i64 ((q : Int) + (cn : Int)))) rb b (.ok ((c :: K).drop cn)) ∧ At rb W (W.setCell ⟨rb, 1, none⟩ (.int .i64 ((q : Int) + (cn : Int)))) from fun W hW => by
          obtain ⟨q, hr, hd⟩ := hW
          have hq : q + cn ≤ b.length := by
            have h1 := congrArg List.length hd
            rw [List.length_drop] at h1
            have h2 := HCL.out
            have h3 := (drop_cons hd).1
            omega
          have h1 := hr.goes (q + cn) hq
          have e : ((q + cn : Nat) : Int) = (q : Int) + (cn : Int) := by omega
          rw [e] at h1
          obtain ⟨A, c', hg, hs, hk', hl, hc⟩ := hr
          exact ⟨q, cells_of hg 1 _ rfl, frz_of hg 1, hq, ⟨q + cn, h1.1, by rw [← List.drop_drop, hd]⟩, h1.2⟩)
        have HL := Lib.hid (show ((c :: K).drop cn).length < gk by
          have := HQ.out
          unfold stLen at this
          rw [List.length_drop]
          simp at this ⊢
          omega)
        have HB2 := Lib.hid (show (acc ++ (c :: K).take cn).length + 4 * stLen (.ok ((c :: K).drop cn)) ≤ 400000 by
          show (acc ++ (c :: K).take cn).length + 4 * ((c :: K).drop cn).length ≤ _
          have h1 := HBND.out
          have h2 := HCL.out
          rw [List.length_append, HTK.out, List.length_drop]
          simp at h2 ⊢
          omega)
        clear hsum hwrap g0 g1 g2 f1 hmk4
        simp only [hne2, if_false, hMk]
        go_wp2_with (at_builtin; refine wpList_append_own _ rfl _ _ 22 rfl w.heap.size 5 i0 (.int .u8 0) 1 1 Tryz.underlying22 HI.out HZ0.out HZ1.out HZ2.out rfl (by decide) _ _ _ rfl HO4D.out (ad2.add k2) cn (cp2 - k2) (bc ((c :: K).take cn)) rfl ?d6 ?d7 ?d8 ?d9 ?d10 ?d11 ?_)
        case d6 => exact HTL.out
        case d7 => exact HCC.out
        case d8 => exact bc_ones _
        case d9 => unfold maxLen; omega
        case d10 => omega
        case d11 => exact HSZ4.out
        intro v6 w6 ho6 hg6 _
        have hT6 := grown_at HA4D.out HO4D.out hrl hg6
        have HO6 := Lib.hid (show w6.ownsRow w.heap.size 5 1 v6 (acc ++ (c :: K).take cn).length (bc (acc ++ (c :: K).take cn)) by
          rw [List.length_append, HTK.out]
          simpa using ho6)
        have hR6 := hT6.2 HR4D.out
        obtain ⟨q, g1, f1, hq, hR7, hA7⟩ := HRX.out _ hR6
        have HR7 := Lib.hid hR7
        have HA7 := Lib.hid (At.trans hT6.1 hA7)
        have HO7 := Lib.hid (row_at HO6.out hA7 hrl)
        have hqn : (q : Int) + (cn : Int) ≤ 100000 := by omega
        clear ho6 hg6 hT6 hR6 hR7 hA7
        go_wp2
        go_roundg (((c :: K).drop cn).length)
        case measure => exact HL.out
        case rel => exact ⟨acc ++ (c :: K).take cn, .ok ((c :: K).drop cn), rfl, HO7, HR7, HA7, HE2, HB2.out⟩
end Go.Proofs.YtminegmjklehnaaGreatDoor.J

/-
  The document's reader of JSON: the number of a text of digits.
-/
namespace Go.Proofs.YtminegmjklehnaaGreatDoor.J
open Go.RowKit Go.Proofs.YtminegmjklehnaaGreatDoor.B
open Go.Proofs.YtminegmjklehnaaGreatDoor.M hiding Bs
open Go.Proofs.YtminegmjklehnaaGreatDoor.C (QRow Turn)
set_option linter.unusedVariables false
set_option linter.unusedSimpArgs false

theorem str_get (s : ByteArray) (k : Nat) (h : k < s.size) : s.data.toList[k]? = some s[k] := by
  have h' : k < s.data.toList.length := by rw [Array.length_toList]; exact h
  rw [List.getElem?_eq_getElem h']
  rfl
set_option maxRecDepth 100000 in
set_option maxHeartbeats 2000000 in
theorem dparse_calls (s : ByteArray) (m : Nat) (hF : Lib.decFrom 0 s.data.toList = some m) (hpos : 0 < s.size) (h15 : (s.size : Int) ≤ 15) (hz : ¬ (s[0].toNat = 48 ∧ (s.size : Int) > 1)) (w : World) :
    Calls Tryz.prog 80 #[.string s] w fun e w' => e = .returned (.tuple #[.int .i64 (m : Int), .bool true]) ∧ w' = w := by
  have hsz : s.data.toList.length = s.size := by rw [Array.length_toList]; rfl
  have c0 : ((s.size : Int) == 0) = false := beq_eq_false_iff_ne.2 (by omega)
  have h18 : ¬ (s.size : Int) > 18 := by omega
  have i0 : (0 : Int) < (s.size : Int) := by omega
  have HF := Lib.hid hF
  have HZ := Lib.hid hsz
  clear hF hsz
  have key : ∀ w, Calls Tryz.prog 80 #[.string s] w fun e w' => e = .returned (.tuple #[.int .i64 (m : Int), .bool true]) ∧ w' = w := by
    intro w
    by_cases h1 : s[0].toNat = 48
    all_goals
      first
      | have z1 : (((s[0].toNat : Nat) : Int) == 48) = true := beq_iff_eq.2 (by omega)
        have z2 : ¬ (1 : Int) < (s.size : Int) := fun h => hz ⟨h1, h⟩
      | have z1 : (((s[0].toNat : Nat) : Int) == 48) = false := beq_eq_false_iff_ne.2 (by omega)
      clear hz h1
      go_enter Tryz.func80, Tryz.ntmps80
      go_wp2
      go_loop [4, 5] (fun v4 v5 => ∃ k n : Nat, k ≤ s.size ∧ v5 = .int .i64 k ∧ v4 = .int .i64 n ∧ Lib.decFrom 0 (s.data.toList.take k) = some n) (fun _ v5 => s.size - (intOf v5).toNat)
      case atStart => exact ⟨0, 0, Nat.zero_le _, rfl, rfl, by simp [Lib.decFrom]⟩
      case round =>
        obtain ⟨k, n, hk, rfl, rfl, hd⟩ := hrel
        by_cases hlt : k < s.size
        · have j0 : (0 : Int) ≤ (k : Int) := by omega
          have j1 : (k : Int) < (s.size : Int) := by omega
          have hb := str_get s k hlt
          have hn := Lib.decFrom_take_lt hd (by omega)
          have hdig : 48 ≤ s[k].toNat ∧ s[k].toNat ≤ 57 := by
            obtain ⟨d, hd'⟩ := Lib.digit_of_decFrom _ _ _ HF.out k _ hb
            obtain ⟨q1, q2, _⟩ := Lib.digitVal_eq hd'
            exact ⟨q1, q2⟩
          have hv : Lib.digitVal s[k] = some (s[k].toNat - 48) := by unfold Lib.digitVal; rw [if_pos hdig]
          have HD := Lib.hid (Lib.decFrom_take _ _ _ _ _ _ hd hb hv)
          have g0 : ¬ ((s[k].toNat : Nat) : Int) < 48 := by omega
          have g1 : ¬ (57 : Int) < ((s[k].toNat : Nat) : Int) := by omega
          clear hd hb hv
          go_wp2
          exact ⟨⟨k + 1, _, by omega, by go_num, by congr 1; omega, HD.out⟩, by simp [intOf]; omega⟩
        · have hr : m = n := by
            have := HF.out
            rw [← List.take_of_length_le (l := s.data.toList) (i := k) (by rw [HZ.out]; omega), hd] at this
            exact (Option.some.inj this).symm
          subst hr
          clear hd
          go_wp2
          go_ret2
          exact ⟨rfl, rfl⟩
  exact key w
/-- a text of digits, as the reader gives it. -/
theorem dec_parse {d : Bs} (hd : ∀ c ∈ d, isDig c = true) : ∃ m : Nat, Lib.decFrom 0 d = some m ∧ (m : Int) = decV d := decNat_val d 0 hd
end Go.Proofs.YtminegmjklehnaaGreatDoor.J

/-
  The document's reader of JSON: a number, where something is wrong already.
-/
namespace Go.Proofs.YtminegmjklehnaaGreatDoor.J
open Go.RowKit Go.Proofs.YtminegmjklehnaaGreatDoor.B
open Go.Proofs.YtminegmjklehnaaGreatDoor.M hiding Bs
open Go.Proofs.YtminegmjklehnaaGreatDoor.C (QRow Turn)
set_option linter.unusedVariables false
set_option linter.unusedSimpArgs false

def numS : St → Except Int (Int × Bs)
  | .ok L => numP L
  | .error e => .error e
def NmRet (w : World) (rb : Nat) (b : Bs) (r : Except Int (Int × Bs)) (e : Ending) (w' : World) : Prop := ∃ n : Int, e = .returned (.int .i64 n) ∧ At rb w w' ∧ match r with
  | .ok (m, M) => n = m ∧ RS w' rb b (.ok M)
  | .error d => n = 0 ∧ RS w' rb b (.error d)
theorem RS.at1 {w : World} {rb : Nat} {b : Bs} {s : St} (h : RS w rb b s) : ∃ k : Nat, w.cell? ⟨rb, 1, none⟩ = some (.int .i64 (k : Int)) ∧ k ≤ b.length := by
  cases s with
  | ok L => obtain ⟨k, ⟨A, c, hg, _, hk, _⟩, h2⟩ := h; exact ⟨k, cells_of hg 1 _ rfl, hk⟩
  | error d => obtain ⟨h0, k, ⟨A, c, hg, _, hk, _⟩⟩ := h; exact ⟨k, cells_of hg 1 _ rfl, hk⟩
theorem RS.e2 {w : World} {rb : Nat} {b : Bs} {d : Int} (h : RS w rb b (.error d)) : w.cell? ⟨rb, 2, none⟩ = some (.int .i64 d) ∧ (d != 0) = true := by
  obtain ⟨h0, k, ⟨A, c, hg, _, hk, _⟩⟩ := h
  exact ⟨cells_of hg 2 _ rfl, bne_iff_ne.2 h0⟩
set_option maxRecDepth 100000 in
set_option maxHeartbeats 4000000 in
theorem rnumber_err {w : World} {rb : Nat} {b : Bs} {d : Int} (h : RS w rb b (.error d)) : Calls Tryz.prog 53 #[.pointer (some ⟨rb, 0, none⟩)] w (NmRet w rb b (.error d)) := by
  have HR := Lib.hid h
  have hh : headV (.error d) = 0 := rfl
  have HD : digS (.error d) = .error d := rfl
  have HD := Lib.hid HD
  clear h
  go_enter Tryz.func53, Tryz.ntmps53
  go_wp2_with fail
  refine (next_calls HR.out).mono ?_
  rintro e w1 ⟨rfl, hR, hB⟩
  have HR1 := Lib.hid hR
  have HA1 := Lib.hid (at_below (rb := rb) hB)
  obtain ⟨k1, g1, hk1⟩ := hR.at1
  clear hR hB HR
  rw [hh]
  go_wp2_with fail
  refine (next_calls HR1.out).mono ?_
  rintro e w2 ⟨rfl, hR, hB⟩
  have HR2 := Lib.hid hR
  have HA2 := Lib.hid (At.below' HA1.out hB)
  clear hR hB HR1 HA1
  rw [hh]
  go_wp2_with fail
  refine (rdigits_calls HR2.out).mono ?_
  rintro e w3 ⟨n, rfl, hA, hn0, hn1, hR⟩
  have hR : RS w3 rb b (.error d) := by rw [HD.out] at hR; exact hR
  have HR3 := Lib.hid hR
  have HA3 := Lib.hid (At.trans HA2.out hA)
  obtain ⟨k3, g3, hk3⟩ := hR.at1
  clear hR hA HR2 HA2 g1
  go_wp2_with fail
  refine (next_calls HR3.out).mono ?_
  rintro e w4 ⟨rfl, hR, hB⟩
  have HR4 := Lib.hid hR
  have HA4 := Lib.hid (At.below' HA3.out hB)
  clear hR hB HR3 HA3 g3
  rw [hh]
  go_wp2_with fail
  refine (next_calls HR4.out).mono ?_
  rintro e w5 ⟨rfl, hR, hB⟩
  have HR5 := Lib.hid hR
  have HA5 := Lib.hid (At.below' HA4.out hB)
  clear hR hB HR4 HA4
  rw [hh]
  go_wp2_with fail
  refine (next_calls HR5.out).mono ?_
  rintro e w6 ⟨rfl, hR, hB⟩
  have HR6 := Lib.hid hR
  have HA6 := Lib.hid (At.below' HA5.out hB)
  obtain ⟨g6, e6⟩ := hR.e2
  clear hR hB HR5 HA5
  rw [hh]
  go_wp2_with fail
  go_ret
  exact ⟨0, rfl, HA6.out, rfl, HR6.out⟩
end Go.Proofs.YtminegmjklehnaaGreatDoor.J

/-
  The document's reader of JSON: numbers. Printed by wip/tools/gen_jd_num.py.
-/
namespace Go.Proofs.YtminegmjklehnaaGreatDoor.J
open Go.RowKit Go.Proofs.YtminegmjklehnaaGreatDoor.B
open Go.Proofs.YtminegmjklehnaaGreatDoor.M hiding Bs
open Go.Proofs.YtminegmjklehnaaGreatDoor.C (QRow Turn)
set_option linter.unusedVariables false
set_option linter.unusedSimpArgs false

theorem push_list : ∀ (l : Bs) (s : ByteArray), (l.map fun b => (b.toNat : Int)).foldl (fun r (n : Int) => r.push (UInt8.ofNat n.toNat)) s = ⟨(s.data.toList ++ l).toArray⟩
  | [], s => by simp
  | c :: l, s => by
    rw [List.map_cons, List.foldl_cons, push_list l]
    simp [ByteArray.push]
set_option maxRecDepth 100000 in
theorem sl_conv {w : World} {F : Nat → Prop} {l : Bs} {ad : Addr} {n : Nat} (h : SlV w F 1 ByR l (some ad) n) (m : Nat) (hm : m ≤ l.length) (c : Nat) : (convert 22 9 (.slice (some ad) m c)).run Tryz.prog w = .ok (vs (l.take m)) w := by
  have hl2 : (loadCells ad m).run Tryz.prog w = .ok (((l.take m).map fun b => (b.toNat : Int)).map (Value.int .u8)).toArray w := by
    have := run_loadCells_list (P := Tryz.prog) w ad (bc (l.take m)) (by_cells h m)
    rw [show (bc (l.take m)).length = m by unfold bc; rw [List.length_map, List.length_take]; omega] at this
    rw [this]
    congr 2
    unfold bc
    rw [List.map_map]
    rfl
  rw [run_convert_bytes_string w 22 9 5 _ m c Tryz.underlying22 Tryz.underlying5 rfl, run_bytesToString w _ m c _ hl2, push_list]
  rfl
theorem num_w_err {L L1 : Bs} {g : Bool} {d : Int} (h1 : negP L = (g, L1)) (h2 : wholeP L1 = .error d) : numP L = .error d := by
  unfold numP; rw [h1]; dsimp only; rw [h2]
theorem num_f_err {L L1 L2 wh : Bs} {g : Bool} {d : Int} (h1 : negP L = (g, L1)) (h2 : wholeP L1 = .ok (wh, L2)) (h3 : fracP L2 = .error d) : numP L = .error d := by
  unfold numP; rw [h1]; dsimp only; rw [h2]; dsimp only; unfold numTail; rw [h3]
theorem num_e_err {L L1 L2 L3 wh : Bs} {g f : Bool} {d : Int} (h1 : negP L = (g, L1)) (h2 : wholeP L1 = .ok (wh, L2)) (h3 : fracP L2 = .ok (f, L3)) (h4 : expP L3 = .error d) : numP L = .error d := by
  unfold numP; rw [h1]; dsimp only; rw [h2]; dsimp only; unfold numTail; rw [h3]; dsimp only; rw [h4]
theorem num_ok {L L1 L2 L3 L4 wh : Bs} {g f x : Bool} (h1 : negP L = (g, L1)) (h2 : wholeP L1 = .ok (wh, L2)) (h3 : fracP L2 = .ok (f, L3)) (h4 : expP L3 = .ok (x, L4)) : numP L = if f || x || decide (15 < wh.length) then .error 1 else .ok (if g then - decV wh else decV wh, L4) := by
  unfold numP; rw [h1]; dsimp only; rw [h2]; dsimp only; unfold numTail; rw [h3]; dsimp only; rw [h4]
theorem negP_no {L : Bs} (h : (headV (.ok L) == 45) = false) : negP L = (false, L) := by
  cases L with
  | nil => rfl
  | cons c L =>
    show (if c == 45 then _ else _) = _
    rw [if_neg]
    intro e
    rw [eq_of_beq e] at h
    exact absurd h (show ¬ (((((45 : UInt8).toNat : Nat) : Int)) == 45) = false by decide)
theorem wholeP_no {L : Bs} (h : (headV (.ok L) == 48) = false) : wholeP L = digitsP L := by
  cases L with
  | nil => rfl
  | cons c L =>
    show (if c == 48 then _ else _) = _
    rw [if_neg]
    intro e
    rw [eq_of_beq e] at h
    exact absurd h (show ¬ (((((48 : UInt8).toNat : Nat) : Int)) == 48) = false by decide)
theorem fracP_no {L : Bs} (h : (headV (.ok L) == 46) = false) : fracP L = .ok (false, L) := by
  cases L with
  | nil => rfl
  | cons c L =>
    show (if c == 46 then _ else _) = _
    rw [if_neg]
    intro e
    rw [eq_of_beq e] at h
    exact absurd h (show ¬ (((((46 : UInt8).toNat : Nat) : Int)) == 46) = false by decide)
theorem expP_no {L : Bs} (h : (headV (.ok L) == 101) = false) (h2 : (headV (.ok L) == 69) = false) : expP L = .ok (false, L) := by
  cases L with
  | nil => rfl
  | cons c L =>
    show (if c == 101 || c == 69 then _ else _) = _
    rw [if_neg]
    intro e
    rcases (by simpa only [Bool.or_eq_true] using e : _ ∨ _) with e | e
    · rw [eq_of_beq e] at h
      exact absurd h (show ¬ (((((101 : UInt8).toNat : Nat) : Int)) == 101) = false by decide)
    · rw [eq_of_beq e] at h2
      exact absurd h2 (show ¬ (((((69 : UInt8).toNat : Nat) : Int)) == 69) = false by decide)
theorem signP_no {L : Bs} (h : (headV (.ok L) == 43) = false) (h2 : (headV (.ok L) == 45) = false) : signP L = L := by
  cases L with
  | nil => rfl
  | cons c L =>
    show (if c == 43 || c == 45 then _ else _) = _
    rw [if_neg]
    intro e
    rcases (by simpa only [Bool.or_eq_true] using e : _ ∨ _) with e | e
    · rw [eq_of_beq e] at h
      exact absurd h (show ¬ (((((43 : UInt8).toNat : Nat) : Int)) == 43) = false by decide)
    · rw [eq_of_beq e] at h2
      exact absurd h2 (show ¬ (((((45 : UInt8).toNat : Nat) : Int)) == 45) = false by decide)
theorem fracP_hit {L M d : Bs} (h : digitsP L = .ok (d, M)) : fracP (46 :: L) = .ok (true, M) := by
  show (match digitsP L with | .error e => Except.error e | .ok (_, M) => .ok (true, M)) = _
  rw [h]
theorem fracP_bad {L : Bs} {d : Int} (h : digitsP L = .error d) : fracP (46 :: L) = .error d := by
  show (match digitsP L with | .error e => Except.error e | .ok (_, M) => .ok (true, M)) = _
  rw [h]
theorem expP_hit {L M d : Bs} {c : UInt8} (hc : c = 101 ∨ c = 69) (h : digitsP (signP L) = .ok (d, M)) : expP (c :: L) = .ok (true, M) := by
  rcases hc with rfl | rfl
  all_goals
    show (match digitsP (signP L) with | .error e => Except.error e | .ok (_, M) => .ok (true, M)) = _
    rw [h]
theorem expP_bad {L : Bs} {c : UInt8} {d : Int} (hc : c = 101 ∨ c = 69) (h : digitsP (signP L) = .error d) : expP (c :: L) = .error d := by
  rcases hc with rfl | rfl
  all_goals
    show (match digitsP (signP L) with | .error e => Except.error e | .ok (_, M) => .ok (true, M)) = _
    rw [h]
theorem dig_ok {L d M : Bs} (h : digitsP L = .ok (d, M)) : d ≠ [] ∧ (∀ c ∈ d, isDig c = true) ∧ L = d ++ M := by
  unfold digitsP at h
  by_cases h0 : (L.takeWhile isDig).isEmpty
  · rw [if_pos h0] at h; cases h
  · rw [if_neg h0] at h
    injection h with h
    injection h with h1 h2
    subst h1; subst h2
    exact ⟨by simpa using h0, fun c hc => List.all_eq_true.1 List.all_takeWhile c hc, (List.takeWhile_append_dropWhile).symm⟩
/-- where the bytes that are left begin. -/
theorem RS.ok1 {w : World} {rb : Nat} {b L : Bs} (h : RS w rb b (.ok L)) : ∃ k : Nat, w.cell? ⟨rb, 1, none⟩ = some (.int .i64 (k : Int)) ∧ k ≤ b.length ∧ b.drop k = L ∧ w.cell? ⟨rb, 2, none⟩ = some (.int .i64 0) := by
  obtain ⟨k, ⟨A, c, hg, _, hk, _⟩, h2⟩ := h
  exact ⟨k, cells_of hg 1 _ rfl, hk, h2, cells_of hg 2 _ rfl⟩
theorem ends_at {b wh L2 : Bs} {k k2 : Nat} (h1 : b.drop k = wh ++ L2) (h2 : b.drop k2 = L2) (hk : k ≤ b.length) (hk2 : k2 ≤ b.length) : k2 = k + wh.length := by
  have e1 := congrArg List.length h1
  have e2 := congrArg List.length h2
  rw [List.length_drop, List.length_append] at e1
  rw [List.length_drop] at e2
  omega
theorem no_zero {S wh W : Bs} (hS : S = wh ++ W) (hx : headV (.ok S) ≠ 48) (hp : 0 < (⟨wh.toArray⟩ : ByteArray).size) (n : Int) : ¬ ((⟨wh.toArray⟩ : ByteArray)[0].toNat = 48 ∧ n > 1) := by
  rintro ⟨hc, -⟩
  have h1 := str_get ⟨wh.toArray⟩ 0 hp
  cases wh with
  | nil => exact absurd hp (by decide)
  | cons c wh =>
    have h2 : some c = some _ := h1
    injection h2 with h2
    rw [← h2] at hc
    subst hS
    exact hx (show ((c.toNat : Nat) : Int) = 48 by omega)
theorem RS.step2 {w : World} {rb : Nat} {b : Bs} {c : UInt8} {L : Bs} (h : RS w rb b (.ok (c :: L))) : ∃ k : Nat, w.cell? ⟨rb, 1, none⟩ = some (.int .i64 (k : Int)) ∧ w.frozen? ⟨rb, 1, none⟩ = false ∧ k < 100000 ∧
    RS (w.setCell ⟨rb, 1, none⟩ (.int .i64 ((k : Int) + 1))) rb b (.ok L) ∧ At rb w (w.setCell ⟨rb, 1, none⟩ (.int .i64 ((k : Int) + 1))) ∧ b.drop (k + 1) = L ∧ k + 1 ≤ b.length := by
  obtain ⟨k, hr, hd⟩ := h
  obtain ⟨hk, hx, hd'⟩ := drop_cons hd
  have h1 := hr.goes (k + 1) (by omega)
  obtain ⟨A, c, hg, hs, hk', hl, hc⟩ := hr
  have e : ((k + 1 : Nat) : Int) = (k : Int) + 1 := by omega
  rw [e] at h1
  exact ⟨k, cells_of hg 1 _ rfl, frz_of hg 1, by omega, ⟨k + 1, h1.1, hd'⟩, h1.2, hd', by omega⟩
end Go.Proofs.YtminegmjklehnaaGreatDoor.J

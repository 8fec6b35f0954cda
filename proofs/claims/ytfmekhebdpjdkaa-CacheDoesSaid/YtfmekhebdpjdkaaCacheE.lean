/-
  The cache: Put, where the answer is kept.
-/
import Derived.Test.YtfmekhebdpjdkaaCacheD
namespace Go.Proofs.Ytfmekhebdpjdkaa.C
open Go.RowKit Go.Proofs.Ytfmekhebdpjdkaa.B
open Go.Maps (Keyed)
set_option linter.unusedVariables false
set_option linter.unusedSimpArgs false

theorem QRow.form {w : World} {e : TypeId} {size : Nat} {v : Value} {n : Nat} {xs : List Value} (h : QRow w e size v n xs) : ∃ a c, v = .slice a n c := by
  rcases h.2 with ⟨rfl, h0⟩ | ⟨g, off, cap, cur, rfl, _⟩
  · exact ⟨none, 0, by rw [h0]⟩
  · exact ⟨_, _, rfl⟩
set_option maxRecDepth 100000 in
set_option maxHeartbeats 1000000 in
theorem Put_had {w : World} {cb : Nat} {most : Int} {N : Nat} {tag : Nat → Option Tag} {mb : Nat} {pm : Nm → Option Nat} {S : Nm → Option Tn} (h : Rep w cb most N tag mb pm S) (hN : N < 100000) (s : ByteArray) (hs : s.size ≤ maxLen) (rev : Int) (q : ByteArray) (hq : q.size ≤ maxLen) (y : Bool)
    (l : List (Nm × Bool)) (hx : atF rev (S s.data.toList) = (rev, l)) (hm : ¬ most < 1) (hlen : (l.length : Int) ≤ most) (hhad : (l.lookup q.data.toList).isSome = true) :
    Calls Try.prog 11 #[.pointer (some ⟨cb, 0, none⟩), .string s, .int .i64 rev, .string q, .bool y] w (CPost w cb most (N + 2) tag mb (upd S s.data.toList (some (rev, repl q.data.toList y l))) (.tuple #[])) := by
  have hat := at_calls h hN s hs rev
  rw [hx] at hat
  clear hx
  have HAT := Lib.hid hat
  clear hat h
  go_enter Try.func11, Try.ntmps11
  go_wp2_with fail
  refine HAT.out.mono ?_
  clear HAT
  rintro e w1 ⟨pb, tag1, pm1, rfl, hpm, hR, hT⟩
  obtain ⟨ab, ov, t1, t2, t3, hp, ha, hqr, hl, hnd, hml⟩ := hR.parts _ pb _ hpm (upd_same _ _ _)
  have hp0 := cells_of hp 0 (.int .i64 rev) rfl
  have hp1 := cells_of hp 1 (.map (some ab)) rfl
  have hc0 := cells_of hR.hc 0 (.int .i64 most) rfl
  obtain ⟨oa, oc, rfl⟩ := hqr.form
  have hpc : pb ≠ ab := fun e => by rw [e, t2] at t1; cases t1
  have hcc : cb ≠ ab := fun e => by have := hR.tc; rw [e, t2] at this; cases this
  have HF := Lib.hid (show ∀ w3, w1.grownBy w3 (some ab) → w3.cell? ⟨pb, 2, none⟩ = some (.slice oa l.length oc) ∧ w3.cell? ⟨cb, 0, none⟩ = some (.int .i64 most) from fun w3 hg =>
    ⟨(hg.cell_far ⟨pb, 2, none⟩ (Array.getElem?_eq_some_iff.1 hp).1 (fun e => hpc (Option.some.inj e))).trans (cells_of hp 2 _ rfl), (hg.cell_far ⟨cb, 0, none⟩ (Array.getElem?_eq_some_iff.1 hR.hc).1 (fun e => hcc (Option.some.inj e))).trans hc0⟩)
  have HP := Lib.hid (show ∀ w3, w1.grownBy w3 (some ab) → OwnF BE w3 9 ab (N + 1 + 1) (upd (fun q => l.lookup q) q.data.toList (some y)) → CPost w cb most (N + 2) tag mb (upd S s.data.toList (some (rev, repl q.data.toList y l))) (.tuple #[]) (.returned (.tuple #[])) w3 from fun w3 hg ho => by
    have hT3 : Turn (own tag1 s.data.toList) w1 w3 := Turn.grown hg (fun k hk => by cases hk; exact .inr (.inl t2))
    obtain ⟨r1, r2⟩ := hR.step (N' := N + 2) (by omega) hT3 (fun _ _ => rfl) (fun b hb => Nat.lt_of_lt_of_le (hR.lt b hb) hT3.size) hpm (x := (rev, repl q.data.toList y l))
      ⟨ab, .slice oa l.length oc, t1, t2, t3, (hg.block pb (Array.getElem?_eq_some_iff.1 hp).1 (fun e => hpc (Option.some.inj e))).trans hp, (ho.congr fun r => repl_lookup _ _ _ hhad r), by
        have hk : QRow w3 9 1 (.slice oa l.length oc) l.length (l.map fun p => vs p.1) := hqr.kept fun g hg' => hg.block g (hqr.block_lt hg') (fun e => by
          have := t3 g hg'
          rw [Option.some.inj e, t2] at this; cases this)
        have e1 : (repl q.data.toList y l).length = l.length := by simp [repl]
        have e2 : (repl q.data.toList y l).map (fun p => vs p.1) = l.map (fun p => vs p.1) := by
          have := congrArg (List.map vs) (repl_keys q.data.toList y l)
          rw [List.map_map, List.map_map] at this
          exact this
        simp only [e1, e2]
        exact hk, by
        have e1 : (repl q.data.toList y l).length = l.length := by simp [repl]
        simp only [e1]
        exact Nat.le_trans hl (Nat.le_succ _), by simp only [repl_keys]; exact hnd, by
        intro p hp'
        obtain ⟨p0, h0, rfl⟩ := List.mem_map.1 hp'
        by_cases e : p0.1 = q.data.toList
        · simp only [e, if_true]
          rw [Array.length_toList]; exact hq
        · simp only [e, if_false]
          exact hml p0 h0⟩
    rw [upd_upd] at r1
    exact ⟨tag1, pm1, rfl, r1, hT.trans r2⟩)
  have HA := Lib.hid ha
  obtain ⟨yy, hyy⟩ := Option.isSome_iff_exists.1 hhad
  have HU := Lib.hid (show BE.get (l.lookup q.data.toList) = .bool yy by rw [hyy]; rfl)
  have HS := Lib.hid hhad
  clear hR hT t1 t2 t3 hp ha hqr hl hnd hml hhad hyy hpc hcc
  go_wp2_with (first
    | (at_lookup; go_loud (refine wpList_look_ok BE rfl _ _ 45 4 rfl law Try.underlying45 (zeroB _) rfl HA.out _ _ rfl (key_mk q hq) _ true HU.out HS.out ?_))
    | (at_mapUpdate; go_loud (refine wpList_store BE rfl _ _ _ 45 4 rfl law Try.underlying45 (by unfold maxLen; omega) rfl HA.out _ _ rfl (key_mk q hq) y rfl ?_)))
  intro w3 ho hg
  obtain ⟨k1, k2⟩ := HF.out w3 hg
  have hpost := Lib.hid (HP.out w3 hg ho)
  clear HF HP HA HU HS ho hg hp0 hp1 hc0
  go_wp2
  go_quiet (fail)
  go_wp2
  exact bodyPost_end (results_none rfl _ _ _) rfl (hpost.out.drew _)
end Go.Proofs.Ytfmekhebdpjdkaa.C

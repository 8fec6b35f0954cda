/-
  SHA-256: Write (the program's)..
-/
import Derived.Test.YthgjhfcafdepcaaGreatDoorShaD
import Derived.Laws.CopyOwn
namespace Go.Proofs.YthgjhfcafdepcaaGreatDoor.Sh
open Go.RowKit Go.Proofs.YthgjhfcafdepcaaGreatDoor.B
open Go.Proofs.YthgjhfcafdepcaaGreatDoor.M hiding Bs
open Go.Proofs.YthgjhfcafdepcaaGreatDoor.C (QRow Turn)
set_option linter.unusedVariables false
set_option linter.unusedSimpArgs false

/-- a state to which these bytes were added. -/
def StW (w : World) (sb : Nat) (L : Bs) : Prop := ∃ ov, StB w sb (stH L) ov L.length ∧ ov.take (L.length % 64) = tailB L
theorem StW.new {w : World} {sb : Nat} (h : StB w sb start8 ov0 0) : StW w sb [] := ⟨ov0, h, rfl⟩
/-- bytes that are read, outside of a block. -/
def RdB (w : World) (F : Nat → Prop) (A : Option Addr) (q : Bs) : Prop := ∀ i x, q[i]? = some x → ∃ ad, A = some ad ∧ F ad.block ∧ w.cell? (ad.add i) = some (.int .u8 (x.toNat : Int))
theorem RdB.keep {w w' : World} {F F' : Nat → Prop} {A : Option Addr} {q : Bs} (h : RdB w F A q) (hk : ∀ a v, F a.block → w.cell? a = some v → F' a.block ∧ w'.cell? a = some v) : RdB w' F' A q := fun i x hx => by
  obtain ⟨ad, h1, h2, h3⟩ := h i x hx
  have h4 := hk _ _ (by rw [add_block]; exact h2) h3
  rw [add_block] at h4
  exact ⟨ad, h1, h4.1, h4.2⟩
theorem RdB.turn {w w' : World} {sb : Nat} {A : Option Addr} {q : Bs} (h : RdB w (fun b => b ≠ sb) A q) (hT : Turn (fun k => k = sb) w w') : RdB w' (fun b => b ≠ sb) A q :=
  h.keep fun a v ha hv => ⟨ha, turn_cell (F := fun b => b ≠ sb) hT (fun b hb _ => hb) a v ha hv⟩
theorem RdB.drop {w : World} {F : Nat → Prop} {ad : Addr} {q : Bs} (h : RdB w F (some ad) q) (k : Nat) : RdB w F (some (ad.add k)) (q.drop k) := fun i x hx => by
  rw [List.getElem?_drop] at hx
  obtain ⟨a, h1, h2, h3⟩ := h _ x hx
  cases h1
  refine ⟨_, rfl, by rw [add_block]; exact h2, ?_⟩
  have : (ad.add k).add i = ad.add (k + i) := by
    unfold Addr.add
    by_cases hk : k = 0 <;> by_cases hi : i = 0 <;> simp_all [Nat.add_assoc]
  rw [this]; exact h3
/-- what a row is when bytes were copied into what is over. -/
theorem over_row (s : V8) (ov q : Bs) (n a k : Nat) (ho : ov.length = 64) (hk : k ≤ q.length) (hak : a + k ≤ 64) :
    ((stL s ov n).take (8 + a) ++ (byC (q.take k) ++ (stL s ov n).drop (8 + a + (byC (q.take k)).length))) = stL s (ov.take a ++ q.take k ++ ov.drop (a + k)) n := by
  have hl : (sV s).toList.length = 8 := rfl
  have hc : (byC (q.take k)).length = k := by unfold byC; rw [List.length_map, List.length_take]; omega
  have hov : (byC ov).length = 64 := by unfold byC; rw [List.length_map]; exact ho
  unfold stL
  rw [hc]
  have e1 : ((sV s).toList ++ (byC ov ++ [Value.int .i64 (n : Int)])).take (8 + a) = (sV s).toList ++ (byC ov).take a := by
    rw [List.take_append, List.take_of_length_le (by omega), hl, show 8 + a - 8 = a by omega, List.take_append_of_le_length (by omega)]
  have e2 : ((sV s).toList ++ (byC ov ++ [Value.int .i64 (n : Int)])).drop (8 + a + k) = (byC ov).drop (a + k) ++ [Value.int .i64 (n : Int)] := by
    rw [List.drop_append, List.drop_eq_nil_of_le (by omega), hl, show 8 + a + k - 8 = a + k by omega, List.drop_append_of_le_length (by omega), List.nil_append]
  rw [e1, e2]
  unfold byC
  simp [List.map_take, List.map_drop]
theorem over_n (s : V8) (ov : Bs) (n n' : Nat) (ho : ov.length = 64) : ((stL s ov n).toArray).setIfInBounds 72 (.int .i64 (n' : Int)) = (stL s ov n').toArray := by
  apply Array.ext'
  simp only [Array.toList_setIfInBounds]
  unfold stL
  rw [List.set_append_right _ _ (by simp [sV])]
  rw [List.set_append_right _ _ (by simp [sV, byC, ho])]
  simp [sV, byC, ho]
theorem StB.num {w : World} {sb : Nat} {s : V8} {ov : Bs} {n : Nat} (h : StB w sb s ov n) : w.cell? ⟨sb, 72, none⟩ = some (.int .i64 (n : Int)) := by
  refine h.cell ?_
  unfold stL
  rw [List.getElem?_append_right (by simp [sV]), List.getElem?_append_right (by simp [sV, byC, h.2])]
  simp [sV, byC, h.2]
theorem info_u8s : (Tryz.prog.info? 5).map (·.size) = some 1 := by kernel_rfl
theorem copy_over {w : World} {sb : Nat} {s : V8} {ov q : Bs} {N a n1 c1 k : Nat} {ad : Addr} (h : StB w sb s ov N) (ha : a < 64) (hq : q.length = n1) (hR : RdB w (fun b => b ≠ sb) (some ad) q) (hk : Nat.min n1 (64 - a) = k) :
    ∃ wa, (Builtin.copy_ #[22, 22] 3 #[.slice (some ⟨sb, 8 + a, none⟩) (64 - a) (64 - a), .slice (some ad) n1 c1]).run Tryz.prog w = .ok (.int .i64 (k : Int)) wa ∧ StB wa sb s (ov.take a ++ q.take k ++ ov.drop (a + k)) N ∧ Turn (fun k => k = sb) w wa := by
  have hk1 : k ≤ n1 := by rw [← hk]; exact Nat.min_le_left _ _
  have hk2 : k ≤ 64 - a := by rw [← hk]; exact Nat.min_le_right _ _
  have hc : (byC (q.take k)).length = k := by unfold byC; rw [List.length_map, List.length_take]; omega
  have hrow := over_row s ov q N a k h.2 (by omega) (by omega)
  have hr := run_copy_row (P := Tryz.prog) w 22 22 3 5 sb (8 + a) (64 - a) (64 - a) ad n1 c1 (stL s ov N).toArray 94 (byC (q.take k)) Tryz.underlying22 info_u8s h.1 (by rw [hc, hk]) (fun j v hj => by
      unfold byC at hj
      rw [List.getElem?_map] at hj
      obtain ⟨x, hx, rfl⟩ := Option.map_eq_some_iff.1 hj
      rw [List.getElem?_take] at hx
      split at hx
      · obtain ⟨ad', h1, h2, h3⟩ := hR j x hx
        cases h1
        exact h3
      · cases hx) (by rw [hc]; simp [stL, sV, byC, h.2]; omega) (fun v hv => by
      unfold byC at hv
      obtain ⟨x, _, rfl⟩ := List.mem_map.1 hv
      rfl)
  rw [List.toList_toArray, List.append_assoc, hrow, hc] at hr
  refine ⟨_, hr, ⟨setRow_heap _ _ _ _ _ _ h.1, ?_⟩, ⟨rfl, rfl, rfl, by simp [World.setRow], fun i _ hi => setRow_other _ _ _ _ hi⟩⟩
  rw [List.length_append, List.length_append, List.length_take, List.length_take, List.length_drop, h.2]
  omega
theorem StB.set_n {w : World} {sb : Nat} {s : V8} {ov : Bs} {n : Nat} (h : StB w sb s ov n) (n' : Nat) : StB (w.setCell ⟨sb, 72, none⟩ (.int .i64 (n' : Int))) sb s ov n' :=
  ⟨(heap_setCell_same _ _ _ _ _ _ h.1).trans (by rw [over_n s ov n n' h.2]), h.2⟩
theorem take_more (p : Bs) (m k : Nat) : p.take (m + k) = p.take m ++ (p.drop m).take k := List.take_add
theorem fill_full {L q ov : Bs} {a k : Nat} (h : L.length % 64 = a) (hov : ov.take a = tailB L) (hl : ov.length = 64) (hak : a + k = 64) : ov.take a ++ q.take k ++ ov.drop (a + k) = tailB L ++ q.take k := by
  rw [hov, List.drop_eq_nil_of_le (by omega), List.append_nil]
theorem fill_part {L q ov : Bs} {a k : Nat} (hov : ov.take a = tailB L) (hl : ov.length = 64) (hak : a + k < 64) (hk : k ≤ q.length) : (ov.take a ++ q.take k ++ ov.drop (a + k)).take (a + k) = tailB L ++ q.take k := by
  have h1 : (ov.take a).length = a := by rw [List.length_take]; omega
  have h2 : (q.take k).length = k := by rw [List.length_take]; omega
  rw [List.take_append_of_le_length (by rw [List.length_append, h1, h2]; omega), List.take_of_length_le (by rw [List.length_append, h1, h2]; omega), hov]
theorem RdB.cut {w : World} {F : Nat → Prop} {ad : Addr} {q : Bs} {n1 c1 k : Nat} (h : RdB w F (some ad) q) (hq : q.length = n1) (hnc : n1 ≤ c1) : RdB w F (if c1 = k then some ad else some (ad.add k)) (q.drop k) := by
  by_cases e : c1 = k
  · rw [if_pos e, List.drop_eq_nil_of_le (by omega)]
    intro i x hx
    simp at hx
  · rw [if_neg e]
    exact h.drop k
theorem wr_next {w wr wa w2 : World} {sb m n n1 N a k c : Nat} {L L1 p q ov : Bs} {A1 : Addr} (hL1 : L ++ p.take m = L1) (hQ : p.drop m = q) (hq : q.length = n1) (hm : m + n1 = n) (hlen : N = L.length + m) (hN : L1.length = N) (ha : N % 64 = a) (hov : ov.length = 64) (hta : ov.take a = tailB L1)
    (hk1 : k ≤ n1) (hk2 : k ≤ 64 - a) (hR : RdB wr (fun b => b ≠ sb) (some A1) q) (hT : Turn (fun k => k = sb) w wr) (hTa : Turn (fun k => k = sb) wr wa) (hT2 : Turn (fun k => k = sb) (wa.setCell ⟨sb, 72, none⟩ (.int .i64 ((N : Int) + (k : Int)))) w2)
    (h : (a + k = 64 ∧ StB w2 sb (blockF (stH L1) (ov.take a ++ q.take k ++ ov.drop (a + k))) (ov.take a ++ q.take k ++ ov.drop (a + k)) (N + k)) ∨ (a + k < 64 ∧ StB w2 sb (stH L1) (ov.take a ++ q.take k ++ ov.drop (a + k)) (N + k))) :
    RdB w2 (fun b => b ≠ sb) (some (A1.add k)) (p.drop (m + k)) ∧ (n1 ≤ c → RdB w2 (fun b => b ≠ sb) (if c = k then some A1 else some (A1.add k)) (p.drop (m + k)) ∧ (c = k → RdB w2 (fun b => b ≠ sb) (some A1) (p.drop (m + k)))) ∧ StW w2 sb (L ++ p.take (m + k)) ∧ Turn (fun k => k = sb) w w2 := by
  have e : p.drop (m + k) = q.drop k := by rw [← hQ, List.drop_drop]
  have e2 : L ++ p.take (m + k) = L1 ++ q.take k := by rw [take_more, ← List.append_assoc, hL1, hQ]
  have hTT : Turn (fun k => k = sb) wr w2 := turn_then (turn_then hTa (Turn.setCell _ _ _ rfl)) hT2
  have hl : (L1 ++ q.take k).length = N + k := by rw [List.length_append, hN, List.length_take]; omega
  have hqk : (q.take k).length = k := by rw [List.length_take]; omega
  rw [e, e2]
  refine ⟨(hR.turn hTT).drop k, fun hn => ?_, ?_, turn_then hT hTT⟩
  · have := (hR.turn hTT).cut hq hn (k := k)
    exact ⟨this, fun hc => by rwa [if_pos hc] at this⟩
  · rcases h with ⟨h1, h2⟩ | ⟨h1, h2⟩
    · have hf := add_full (L := L1) (p := q.take k) (by rw [hN, ha, hqk]; exact h1)
      have hfull := fill_full (L := L1) (q := q) (by rw [hN]; exact ha) hta hov h1
      refine ⟨_, by rw [hl, hf.1, ← hfull]; exact h2, ?_⟩
      rw [hl, show (N + k) % 64 = 0 by omega, hf.2, List.take_zero]
    · have hf := add_part (L := L1) (p := q.take k) (by rw [hN, ha, hqk]; exact h1)
      refine ⟨_, by rw [hl, hf.1]; exact h2, ?_⟩
      rw [hl, show (N + k) % 64 = a + k by omega, hf.2]
      exact fill_part hta hov h1 (by omega)
set_option maxRecDepth 100000 in
set_option maxHeartbeats 4000000 in
theorem Write_calls {w : World} {sb : Nat} {L p : Bs} {A : Option Addr} {n c : Nat} (h : StW w sb L) (hn : p.length = n) (hnc : n ≤ c) (hL : L.length + n ≤ 9223372036854775807) (hp : RdB w (fun b => b ≠ sb) A p) :
    Calls Tryz.prog 51 #[.pointer (some ⟨sb, 0, none⟩), .slice A n c] w fun e w' => e = .returned (.tuple #[]) ∧ StW w' sb (L ++ p) ∧ Turn (fun k => k = sb) w w' := by
  have HS := Lib.hid h
  have HP := Lib.hid hp
  clear h hp
  go_enter Tryz.func51, Tryz.ntmps51
  go_wp2_with fail
  go_loopw [1, 4, 5] (fun v1 v4 v5 wr => ∃ (m : Nat) (A1 : Option Addr) (n1 c1 : Nat), m + n1 = n ∧ v1 = .slice A1 n1 c1 ∧ n1 ≤ c1 ∧ Hid (RdB wr (fun b => b ≠ sb) A1 (p.drop m)) ∧ Hid (StW wr sb (L ++ p.take m)) ∧ Hid (Turn (fun k => k = sb) w wr)) (fun v1 _ _ _ => match v1 with | .slice _ n _ => n | _ => 0)
  case atStart => exact ⟨0, A, n, c, by omega, rfl, hnc, Lib.hid (by simpa using HP.out), Lib.hid (by simpa using HS.out), Lib.hid (Turn.refl _ _)⟩
  case round =>
    obtain ⟨m, A1, n1, c1, hm, rfl, hnc1, HR, HSt, HT⟩ := hrel
    by_cases h0 : n1 = 0
    · subst h0
      have hfin : p.take m = p := List.take_of_length_le (by omega)
      rw [hfin] at HSt
      go_wp2
      refine bodyPost_end (results_none rfl _ _ _) rfl ?_
      exact ⟨rfl, HSt.out, HT.out⟩
    · have hq : (p.drop m).length = n1 := by rw [List.length_drop]; omega
      obtain ⟨q, hqq⟩ : ∃ q, p.drop m = q := ⟨_, rfl⟩
      rw [hqq] at hq HR
      have HQ := Lib.hid hqq
      clear hqq
      obtain ⟨ad, rfl⟩ : ∃ ad, A1 = some ad := by
        obtain ⟨ad, h1, _⟩ := HR.out 0 (q[0]'(by omega)) (List.getElem?_eq_getElem _)
        exact ⟨ad, h1⟩
      obtain ⟨L1, hL1⟩ : ∃ L1, L ++ p.take m = L1 := ⟨_, rfl⟩
      rw [hL1] at HSt
      have hlen : L1.length = L.length + m := by rw [← hL1, List.length_append, List.length_take]; omega
      have HL1 := Lib.hid hL1
      clear hL1
      obtain ⟨ov, hst, hov⟩ := HSt.out
      have HB := Lib.hid hst
      have HO := Lib.hid hov
      have cn := hst.num
      have fn := frozen_of_row wr sb 72 _ _ hst.1
      clear hst hov HSt
      obtain ⟨N, hN⟩ : ∃ N, L1.length = N := ⟨_, rfl⟩
      rw [hN] at cn hlen
      obtain ⟨a, ha⟩ : ∃ a, N % 64 = a := ⟨_, rfl⟩
      have ha64 : a < 64 := by omega
      have e0 : IntKind.i64.wrap (N : Int) = N := IntWalk.i64_in _ ⟨by omega, by omega⟩
      have e1 : (N : Int) % 64 = (a : Int) := by omega
      have e2 : (N : Int).tmod 64 = (a : Int) := by rw [Int.tmod_eq_emod_of_nonneg (by omega)]; exact e1
      have hpos : (0 : Int) < (n1 : Int) := by omega
      have a0 : (0 : Int) ≤ (a : Int) := by omega
      have a1 : (a : Int) < 64 := by omega
      have a2 : (a : Int) ≤ 64 := by omega
      have hane : ¬ (64 : Int) = (a : Int) := by omega
      have hN63 : N + n1 ≤ 9223372036854775807 := by omega
      have HLEN := Lib.hid hlen
      have HNN := Lib.hid hN
      have HA := Lib.hid ha
      clear hlen hN ha
      obtain ⟨k, hk⟩ : ∃ k, Nat.min n1 (64 - a) = k := ⟨_, rfl⟩
      have hk1 : k ≤ n1 := by rw [← hk]; exact Nat.min_le_left _ _
      have hk2 : k ≤ 64 - a := by rw [← hk]; exact Nat.min_le_right _ _
      have hk3 : 0 < k := by rw [← hk]; exact Nat.lt_min.2 ⟨by omega, by omega⟩
      have hkk : k = n1 ∨ k = 64 - a := by rw [← hk]; show min n1 (64 - a) = n1 ∨ min n1 (64 - a) = 64 - a; omega
      obtain ⟨wa, hcp, hsa, hTa⟩ := copy_over (c1 := c1) HB.out ha64 hq HR.out hk
      have cna := hsa.num
      have fna := frozen_of_row wa sb 72 _ _ hsa.1
      rw [HNN.out] at cna
      have HSB := Lib.hid (show StB (wa.setCell ⟨sb, 72, none⟩ (.int .i64 ((N : Int) + (k : Int)))) sb (stH L1) (ov.take a ++ q.take k ++ ov.drop (a + k)) (N + k) from hsa.set_n (N + k))
      have HOL := Lib.hid (show ov.length = 64 from HB.out.2)
      have HTA := Lib.hid hTa
      have HRA := Lib.hid (HR.out.turn hTa)
      have HKK := Lib.hid hkk
      have HK := Lib.hid hk
      have HF := Lib.hid fna
      clear hsa hTa hkk hk
      have k0 : (0 : Int) ≤ (k : Int) := by omega
      have k1 : (k : Int) ≤ (n1 : Int) := by omega
      have k2 : (k : Int) ≤ (c1 : Int) := by omega
      have ek : IntKind.i64.wrap ((N : Int) + (k : Int)) = ((N + k : Nat) : Int) := by
        rw [IntWalk.i64_in _ ⟨by omega, by omega⟩]; omega
      have ek2 : IntKind.i64.wrap ((a : Int) + (k : Int)) = ((a + k : Nat) : Int) := by
        rw [IntWalk.i64_in _ ⟨by omega, by omega⟩]; omega
      by_cases h64 : a + k = 64
      · have HH := Lib.hid h64
        have hb : (a : Int) + (k : Int) = 64 := by omega
        go_wp2_with fail
        all_goals
          refine (block_calls HSB.out).mono ?_
          rintro e w2 ⟨rfl, hst2, hT2⟩
          have HS2 := Lib.hid hst2
          have HT2 := Lib.hid hT2
          clear hst2 hT2
          go_wp2
          have hw := wr_next (A1 := ad) (c := c1) HL1.out HQ.out hq hm HLEN.out HNN.out HA.out HOL.out (by rw [← HA.out, ← HNN.out]; exact HO.out) hk1 hk2 HR.out HT.out HTA.out HT2.out (Or.inl ⟨HH.out, HS2.out⟩)
          exact ⟨⟨m + k, _, n1 - k, _, by omega, rfl, by omega, Lib.hid (by first | exact hw.1 | exact (hw.2.1 hnc1).1 | exact (hw.2.1 hnc1).2 (by assumption)), Lib.hid hw.2.2.1, Lib.hid hw.2.2.2⟩, by show n1 - k < n1; omega⟩
      · have HH := Lib.hid h64
        have hb : ¬ (a : Int) + (k : Int) = 64 := by omega
        go_wp2_with fail
        all_goals
          have hw := wr_next (A1 := ad) (c := c1) HL1.out HQ.out hq hm HLEN.out HNN.out HA.out HOL.out (by rw [← HA.out, ← HNN.out]; exact HO.out) hk1 hk2 HR.out HT.out HTA.out (Turn.refl _ _) (Or.inr ⟨by have := HH.out; omega, HSB.out⟩)
          exact ⟨⟨m + k, _, n1 - k, _, by omega, rfl, by omega, Lib.hid (by first | exact hw.1 | exact (hw.2.1 hnc1).1 | exact (hw.2.1 hnc1).2 (by assumption)), Lib.hid hw.2.2.1, Lib.hid hw.2.2.2⟩, by show n1 - k < n1; omega⟩
end Go.Proofs.YthgjhfcafdepcaaGreatDoor.Sh

/-
  HTTP: what a status is called; bytes put together; a response (the program's).
-/
import Derived.Test.YtomancadpdccaaaGreatDoorHtN
import Derived.Lib.AppendZeros
namespace Go.Proofs.YtomancadpdccaaaGreatDoor.Ht
open Go.RowKit Go.Proofs.YtomancadpdccaaaGreatDoor.B
open Go.Proofs.YtomancadpdccaaaGreatDoor.M hiding Bs
open Go.Proofs.YtomancadpdccaaaGreatDoor.C (QRow Turn OwnF Elem upd)
set_option linter.unusedVariables false
set_option linter.unusedSimpArgs false

theorem rea_no {n : Int} (h200 : n ≠ 200) (h400 : n ≠ 400) (h401 : n ≠ 401) (h403 : n ≠ 403) (h404 : n ≠ 404) (h405 : n ≠ 405) (h409 : n ≠ 409) (h411 : n ≠ 411) (h413 : n ≠ 413) (h422 : n ≠ 422) (h429 : n ≠ 429) (h431 : n ≠ 431) (h503 : n ≠ 503) (h505 : n ≠ 505) (h507 : n ≠ 507) : reaF n = [] := by
  unfold reaF
  rw [show reas.find? (fun p => p.1 == n) = none from by
    rw [List.find?_eq_none]
    intro p hp
    simp only [reas, List.mem_cons, List.mem_nil_iff, or_false, List.not_mem_nil] at hp
    rcases hp with rfl | rfl | rfl | rfl | rfl | rfl | rfl | rfl | rfl | rfl | rfl | rfl | rfl | rfl | rfl
    all_goals
      simp only [beq_iff_eq]
      intro e
      exact absurd e.symm (by assumption)]
set_option maxRecDepth 100000 in
set_option maxHeartbeats 8000000 in
theorem Reason_calls (n : Int) (w : World) : Calls Tryz.prog 16 #[.int .i64 n] w fun e w' => e = .returned (vs (reaF n)) ∧ w' = w := by
  go_enter Tryz.func16, Tryz.ntmps16
  by_cases h200 : n = 200
  · subst h200
    go_wp2
    go_ret
    exact ⟨rfl, rfl⟩
  have q200 : (n == 200) = false := by rw [beq_eq_false_iff_ne]; exact h200
  by_cases h400 : n = 400
  · subst h400
    go_wp2
    go_ret
    exact ⟨rfl, rfl⟩
  have q400 : (n == 400) = false := by rw [beq_eq_false_iff_ne]; exact h400
  by_cases h401 : n = 401
  · subst h401
    go_wp2
    go_ret
    exact ⟨rfl, rfl⟩
  have q401 : (n == 401) = false := by rw [beq_eq_false_iff_ne]; exact h401
  by_cases h403 : n = 403
  · subst h403
    go_wp2
    go_ret
    exact ⟨rfl, rfl⟩
  have q403 : (n == 403) = false := by rw [beq_eq_false_iff_ne]; exact h403
  by_cases h404 : n = 404
  · subst h404
    go_wp2
    go_ret
    exact ⟨rfl, rfl⟩
  have q404 : (n == 404) = false := by rw [beq_eq_false_iff_ne]; exact h404
  by_cases h405 : n = 405
  · subst h405
    go_wp2
    go_ret
    exact ⟨rfl, rfl⟩
  have q405 : (n == 405) = false := by rw [beq_eq_false_iff_ne]; exact h405
  by_cases h409 : n = 409
  · subst h409
    go_wp2
    go_ret
    exact ⟨rfl, rfl⟩
  have q409 : (n == 409) = false := by rw [beq_eq_false_iff_ne]; exact h409
  by_cases h411 : n = 411
  · subst h411
    go_wp2
    go_ret
    exact ⟨rfl, rfl⟩
  have q411 : (n == 411) = false := by rw [beq_eq_false_iff_ne]; exact h411
  by_cases h413 : n = 413
  · subst h413
    go_wp2
    go_ret
    exact ⟨rfl, rfl⟩
  have q413 : (n == 413) = false := by rw [beq_eq_false_iff_ne]; exact h413
  by_cases h422 : n = 422
  · subst h422
    go_wp2
    go_ret
    exact ⟨rfl, rfl⟩
  have q422 : (n == 422) = false := by rw [beq_eq_false_iff_ne]; exact h422
  by_cases h429 : n = 429
  · subst h429
    go_wp2
    go_ret
    exact ⟨rfl, rfl⟩
  have q429 : (n == 429) = false := by rw [beq_eq_false_iff_ne]; exact h429
  by_cases h431 : n = 431
  · subst h431
    go_wp2
    go_ret
    exact ⟨rfl, rfl⟩
  have q431 : (n == 431) = false := by rw [beq_eq_false_iff_ne]; exact h431
  by_cases h503 : n = 503
  · subst h503
    go_wp2
    go_ret
    exact ⟨rfl, rfl⟩
  have q503 : (n == 503) = false := by rw [beq_eq_false_iff_ne]; exact h503
  by_cases h505 : n = 505
  · subst h505
    go_wp2
    go_ret
    exact ⟨rfl, rfl⟩
  have q505 : (n == 505) = false := by rw [beq_eq_false_iff_ne]; exact h505
  by_cases h507 : n = 507
  · subst h507
    go_wp2
    go_ret
    exact ⟨rfl, rfl⟩
  have q507 : (n == 507) = false := by rw [beq_eq_false_iff_ne]; exact h507
  have HR := Lib.hid (rea_no h200 h400 h401 h403 h404 h405 h409 h411 h413 h422 h429 h431 h503 h505 h507)
  clear h200 h400 h401 h403 h404 h405 h409 h411 h413 h422 h429 h431 h503 h505 h507
  go_wp2
  go_ret
  exact ⟨by rw [HR.out]; rfl, rfl⟩
/-! ### rows of bytes -/
theorem BOwn.row' {w : World} {base : Nat} {v : Value} {l : Bs} {n : Nat} (h : Nu.BOwn w base v l) (hn : l.length = n) : w.ownsRow base 5 1 v n (l.map Nu.vb) := by subst hn; exact h
theorem BOwn.many {w : World} {base : Nat} {v : Value} {l m : Bs} {n k : Nat} {zs : List Value} (h : w.ownsRow base 5 1 v (n + k) (l.map Nu.vb ++ zs)) (hn : l.length = n) (hk : m.length = k) (hz : zs = m.map Nu.vb) : Nu.BOwn w base v (l ++ m) := by
  unfold Nu.BOwn
  rw [List.length_append, hn, hk, List.map_append, ← hz]
  exact h
theorem BOwn.rd {w : World} {base : Nat} {v : Value} {l : Bs} (h : Nu.BOwn w base v l) (hl : l.length ≤ 9223372036854775807) : ∃ A c, v = .slice A l.length c ∧ l.length ≤ c ∧ Nu.BRead w A l.length l := by
  rcases h.2 with ⟨rfl, h0⟩ | ⟨g, cap, cur, rfl, hb, hg, hn, hc, hs, ht⟩
  · rw [h0]
    exact ⟨none, 0, rfl, Nat.le_refl _, h0, by omega, fun hp => by omega⟩
  · refine ⟨_, cap, rfl, hn, rfl, by omega, fun hp => ⟨_, rfl, fun i hi => ?_⟩⟩
    rw [Addr.add_lit, cell_of_row w g _ _ _ (0, 0) hg]
    have e := congrArg (fun l : List Value => l[i]?) ht
    simp only [List.getElem?_take, List.getElem?_map] at e
    rw [if_pos (by omega), List.getElem?_eq_getElem hi] at e
    rw [Nat.zero_add, ← Array.getElem?_toList, e]
    show some (Nu.vb l[i]) = some (Value.int .u8 ((l.getD i 0).toNat : Int))
    rw [List.getD_eq_getElem?_getD, List.getElem?_eq_getElem hi]
    rfl
theorem BOwn.base {w : World} {base b : Nat} {v : Value} {l : Bs} (h : Nu.BOwn w base v l) (hb : b ≤ base) : Nu.BOwn w b v l := by
  refine ⟨h.1, ?_⟩
  rcases h.2 with h | ⟨g, cap, cur, h1, h2, h3⟩
  · exact .inl h
  · exact .inr ⟨g, cap, cur, h1, by omega, h3⟩
/-- append of bytes that lie anywhere, onto a row of one's own. -/
theorem app_bytes {W : World} {base : Nat} {v : Value} {l m : Bs} {A : Option Addr} {n k c : Nat} (hown : Nu.BOwn W base v l) (hn : l.length = n) (hR : Nu.BRead W A k m) (hmax : n + k ≤ 140737488351232) (hbase : base ≤ W.heap.size) :
    ∃ v' w', (Builtin.append_ #[22, 22] 22 #[v, .slice A k c]).run Tryz.prog W = .ok v' w' ∧ Nu.BOwn w' base v' (l ++ m) ∧ (∀ w0, Below base w0 W → Below base w0 w') := by
  have hm : m.length = k := hR.1
  obtain ⟨i0, hi, hz0, hz1, hz2⟩ := info_parts Nu.info_u8
  by_cases h0 : k = 0
  · subst h0
    obtain rfl : m = [] := List.eq_nil_of_length_eq_zero hm
    have hr : (Builtin.append_ #[22, 22] 22 #[v, .slice A 0 c]).run Tryz.prog W = .ok v W := by
      rcases hown.2 with ⟨rfl, _⟩ | ⟨g, cap, cur, rfl, h1, h2, h3, h4⟩
      · cases A <;> simp [Builtin.append_, run_underlying Tryz.underlying22, sizeOf, typeInfo, hi, Builtin.lenOf, Builtin.firstCells, storeCells, loadCells, loadCellsFrom]
      · cases A <;> simp [Builtin.append_, run_underlying Tryz.underlying22, sizeOf, typeInfo, hi, Builtin.lenOf, Builtin.firstCells, storeCells, loadCells, loadCellsFrom, h3]
    exact ⟨v, W, hr, by rw [List.append_nil]; exact hown, fun _ h => h⟩
  · obtain ⟨ad, rfl, hcell⟩ := hR.2.2 (by omega)
    obtain ⟨v', w', r1, r2, r3, -⟩ := run_append_own (P := Tryz.prog) W base 22 22 5 i0 (.int .u8 0) 1 1 Tryz.underlying22 hi hz0 hz1 hz2 rfl (by decide) v n (l.map Nu.vb) (BOwn.row' hown hn) ad k c (m.map Nu.vb) (by simp [hm]) (fun j u hj => by
      rw [List.getElem?_map] at hj
      obtain ⟨x, hx, rfl⟩ := Option.map_eq_some_iff.1 hj
      have hjl := (List.getElem?_eq_some_iff.1 hx).1
      have := hcell j (by omega)
      rw [this]
      show some (Value.int .u8 ((m.getD j 0).toNat : Int)) = _
      rw [List.getD_eq_getElem?_getD, hx]
      rfl) (fun u hu => by
      obtain ⟨y, _, rfl⟩ := List.mem_map.1 hu
      rfl) (by unfold maxLen; omega) (by omega) hbase
    exact ⟨v', w', r1, BOwn.many r2 hn hm rfl, fun w0 hb => hb.grown r3 hbase (fun b hb => Nu.own_base' hown b hb)⟩
theorem zeroCells_size' (z : Value) (n : Nat) : (Builtin.zeroCells #[z] n).size = n := by simp [Builtin.zeroCells]
set_option maxRecDepth 100000 in
set_option maxHeartbeats 4000000 in
theorem Grow_c (n : Nat) (h0 : 0 < n) (hn : n ≤ 10000000) (w : World) : Calls Tryz.prog 50 #[.slice none 0 0, .int .i64 n] w fun e w' => ∃ v, e = .returned v ∧ Nu.BOwn w' w.heap.size v [] ∧ Below w.heap.size w w' := by
  obtain ⟨i0, hi, hz0, hz1, hz2⟩ := info_parts Nu.info_u8
  have hr := Lib.run_append_nil_zeros (P := Tryz.prog) w 22 3 22 5 i0 (.int .u8 0) .i64 .i64 Tryz.underlying22 Tryz.underlying3 hi hz0 n h0 (by omega) (by omega) (by rw [hz2]; omega)
  have HR := Lib.hid hr
  have h1 : ¬ (n : Int) < 0 := by omega
  have h2 : (0 : Int) < (n : Int) := by omega
  have h3 : IntKind.i64.wrap (n : Int) = (n : Int) := by rw [IntKind.wrap_i64]; omega
  clear hr
  go_enter Tryz.func50, Tryz.ntmps50
  go_wp2_with (at_builtin; go_loud (refine Lib.wpList_append_run _ rfl _ _ 22 3 rfl (.slice none 0 0) (.int .i64 n) rfl rfl _ _ HR.out ?_))
  go_ret
  refine ⟨_, rfl, ⟨rfl, .inr ⟨_, grownCap w n 0 5, _, rfl, Nat.le_refl _, heap_alloc_new w _, Nat.zero_le _, grownCap_le_maxLen _ _ _ _ (by unfold maxLen; omega), ?_, rfl⟩⟩, below_drewN ((Below.refl _ w).alloc (Nat.le_refl _) _) 1⟩
  have := grownCap_ge w n 0 5
  rw [Array.size_append, zeroCells_size', zeroCells_size']
  omega
theorem cell_two {w : World} {b : Nat} {x0 x1 : Value} {e : TypeId} (h : w.heap[b]? = some (.cells #[x0, x1] e (0, 0))) : w.cell? ⟨b, 0, none⟩ = some x0 ∧ w.cell? ⟨b, 1, none⟩ = some x1 := ⟨cells_of h 0 _ rfl, cells_of h 1 _ rfl⟩
def two (x y : Bs) : Nat → Bs
  | 0 => []
  | 1 => x
  | _ => x ++ y
set_option maxRecDepth 100000 in
set_option maxHeartbeats 8000000 in
theorem Concat_c (b : Nat) (l1 l2 : Bs) (A1 A2 : Option Addr) (n1 c1 n2 c2 : Nat) (t : TypeId) (w : World) (hb : w.heap[b]? = some (.cells #[.slice A1 n1 c1, .slice A2 n2 c2] t (0, 0))) (h1 : Nu.BRead w A1 n1 l1) (h2 : Nu.BRead w A2 n2 l2) (hp : 0 < n1) (hmax : n1 + n2 ≤ 10000000) :
    Calls Tryz.prog 33 #[.slice (some ⟨b, 0, none⟩) 2 2] w fun e w' => ∃ v, e = .returned v ∧ Nu.BOwn w' w.heap.size v (l1 ++ l2) ∧ Below w.heap.size w w' := by
  have HR1 := Lib.hid h1
  have HR2 := Lib.hid h2
  have hlb := lt_of_heap hb
  have HC := Lib.hid (fun (V : World) (hx : Below w.heap.size w V) => cell_two ((hx.block b hlb).trans hb))
  have HL1 := Lib.hid h1.1
  have HL2 := Lib.hid h2.1
  obtain ⟨k0, k1⟩ := cell_two hb
  clear h1 h2 hb
  go_enter Tryz.func33, Tryz.ntmps33
  go_wp2_with fail
  go_loopw [3, 5, 11] (fun v3 v5 v11 wr => ∃ (i s : Nat), ((i = 0 ∧ s = 0) ∨ (i = 1 ∧ s = n1) ∨ (i = 2 ∧ s = n1 + n2)) ∧ v3 = .int .i64 s ∧ v11 = .int .i64 i ∧ wr = w) (fun _ _ v11 _ => 2 - (intOf v11).toNat)
  case atStart => exact ⟨0, 0, .inl ⟨rfl, rfl⟩, rfl, rfl, rfl⟩
  case round =>
    obtain ⟨i, s, hi, rfl, rfl, rfl⟩ := hrel
    rcases hi with ⟨rfl, rfl⟩ | ⟨rfl, rfl⟩ | ⟨rfl, rfl⟩
    · have q1 : IntKind.i64.wrap ((0 : Int) + (n1 : Int)) = (n1 : Int) := by rw [IntKind.wrap_i64]; omega
      have q2 : IntKind.i64.wrap (n1 : Int) = (n1 : Int) := by rw [IntKind.wrap_i64]; omega
      have q3 : ¬ (n1 : Int) < 0 := by omega
      go_wp2
      exact ⟨⟨1, n1, .inr (.inl ⟨rfl, rfl⟩), rfl, rfl, by trivial⟩, by simp [intOf]⟩
    · have q1 : IntKind.i64.wrap ((s : Int) + (n2 : Int)) = (s : Int) + (n2 : Int) := by rw [IntKind.wrap_i64]; omega
      have q3 : ¬ (s : Int) + (n2 : Int) < 0 := by omega
      go_wp2
      exact ⟨⟨2, s + n2, .inr (.inr ⟨rfl, rfl⟩), by push_cast; rfl, rfl, by trivial⟩, by simp [intOf]⟩
    · obtain ⟨S, hS⟩ : ∃ S, n1 + n2 = S := ⟨_, rfl⟩
      have HSS := Lib.hid hS
      have hSp : 0 < S := by omega
      have hSm : S ≤ 10000000 := by omega
      rw [hS]
      clear hS
      obtain ⟨wz, hwz⟩ : ∃ wz, wz = wr := ⟨_, rfl⟩
      subst hwz
      go_wp2_with fail
      refine (Grow_c S hSp hSm wz).mono ?_
      rintro e w1 ⟨v, rfl, hown, hb1⟩
      have HO := Lib.hid (show Nu.BOwn w1 wz.heap.size v (two l1 l2 0) from hown)
      have HB := Lib.hid hb1
      clear hown hb1
      go_wp2_with fail
      go_loopw [6, 8, 27] (fun v6 v8 v27 wr => ∃ (i : Nat), i ≤ 2 ∧ v27 = .int .i64 i ∧ Hid (Nu.BOwn wr wz.heap.size v6 (two l1 l2 i)) ∧ Hid (Below wz.heap.size wz wr)) (fun _ _ v27 _ => 2 - (intOf v27).toNat)
      case atStart => exact ⟨0, by omega, rfl, HO, HB⟩
      case round =>
        clear HO HB
        obtain ⟨i, hi, rfl, HO, HB⟩ := hrel
        obtain ⟨k0, k1⟩ := HC.out wr HB.out
        have hbz := HB.out.size
        have hic : i = 0 ∨ i = 1 ∨ i = 2 := by omega
        rcases hic with rfl | rfl | rfl
        · obtain ⟨v', w', hr, hown, hb⟩ := app_bytes (c := c1) HO.out (n := 0) rfl (bread_below HR1.out HB.out) (by have := HSS.out; omega) hbz
          have HR := Lib.hid hr
          have HO2 := Lib.hid (show Nu.BOwn w' wz.heap.size v' (two l1 l2 1) from hown)
          have HB2 := Lib.hid (hb _ HB.out)
          clear hr hown hb
          obtain ⟨A6, c6, rfl, -, -⟩ := BOwn.rd HO.out (by show 0 ≤ _; omega)
          go_wp2_with (at_builtin; go_loud (refine Lib.wpList_append_run _ rfl _ _ 22 22 rfl _ _ rfl rfl _ _ HR.out ?_))
          go_wp2
          exact ⟨⟨1, by omega, rfl, HO2, HB2⟩, by simp [intOf]⟩
        · obtain ⟨v', w', hr, hown, hb⟩ := app_bytes (c := c2) HO.out (n := n1) HL1.out (bread_below HR2.out HB.out) (by have := HSS.out; omega) hbz
          have HR := Lib.hid hr
          have HO2 := Lib.hid (show Nu.BOwn w' wz.heap.size v' (two l1 l2 2) from hown)
          have HB2 := Lib.hid (hb _ HB.out)
          clear hr hown hb
          obtain ⟨A6, c6, rfl, -, -⟩ := BOwn.rd HO.out (by show l1.length ≤ _; rw [HL1.out]; have := HSS.out; omega)
          go_wp2_with (at_builtin; go_loud (refine Lib.wpList_append_run _ rfl _ _ 22 22 rfl _ _ rfl rfl _ _ HR.out ?_))
          go_wp2
          exact ⟨⟨2, by omega, rfl, HO2, HB2⟩, by simp [intOf]⟩
        · have HO3 := Lib.hid (show Nu.BOwn wr wz.heap.size _ (l1 ++ l2) from HO.out)
          go_wp2_with fail
          go_ret
          exact ⟨_, rfl, HO3.out, HB.out⟩
end Go.Proofs.YtomancadpdccaaaGreatDoor.Ht

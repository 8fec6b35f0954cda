/-
  SHA-256, the document's: the words of a block.
-/
import Derived.Test.YthgjhfcafdepcaaGreatDoorShaI
namespace Go.Proofs.YthgjhfcafdepcaaGreatDoor.Sh
open Go.RowKit Go.Proofs.YthgjhfcafdepcaaGreatDoor.B
open Go.Proofs.YthgjhfcafdepcaaGreatDoor.M hiding Bs
open Go.Proofs.YthgjhfcafdepcaaGreatDoor.C (QRow Turn)
set_option linter.unusedVariables false
set_option linter.unusedSimpArgs false

theorem or4_int (b0 b1 b2 b3 : UInt8) : bits .or .u32 (bits .or .u32 (bits .or .u32 ((b0.toNat : Int) * 16777216) ((b1.toNat : Int) * 65536)) ((b2.toNat : Int) * 256)) (b3.toNat : Int) = (((UInt32.ofNat ((b0.toNat * 16777216 + b1.toNat * 65536) + (b2.toNat * 256 + b3.toNat))).toNat : Nat) : Int) := by
  have h0 := b0.toNat_lt
  have h1 := b1.toNat_lt
  have h2 := b2.toNat_lt
  have h3 := b3.toNat_lt
  rw [bits_join .u32 32 (by decide) wraps_u32 24 ((b0.toNat : Int) * 16777216) ((b1.toNat : Int) * 65536) (by omega) (by omega) (by omega) (by omega) (by omega) (by omega)]
  rw [bits_join .u32 32 (by decide) wraps_u32 16 ((b0.toNat : Int) * 16777216 + (b1.toNat : Int) * 65536) ((b2.toNat : Int) * 256) (by omega) (by omega) (by omega) (by omega) (by omega) (by omega)]
  rw [bits_join .u32 32 (by decide) wraps_u32 8 ((b0.toNat : Int) * 16777216 + (b1.toNat : Int) * 65536 + (b2.toNat : Int) * 256) (b3.toNat : Int) (by omega) (by omega) (by omega) (by omega) (by omega) (by omega)]
  rw [UInt32.toNat_ofNat']
  omega
theorem wNext_wrap (x y u v : UInt32) : IntKind.u32.wrap (IntKind.u32.wrap (IntKind.u32.wrap (bits .xor .u32 (bits .xor .u32 ((rot y 17).toNat : Int) ((rot y 19).toNat : Int)) ((y.toNat : Int) / (1024 : Int)) + (u.toNat : Int)) + bits .xor .u32 (bits .xor .u32 ((rot x 7).toNat : Int) ((rot x 18).toNat : Int)) ((x.toNat : Int) / (8 : Int))) + (v.toNat : Int)) = ((wNext x y u v).toNat : Int) := by
  rw [shr10, shr3]
  simp only [xor_u, wadd_u]
  rfl
theorem hmk64 (w : World) : (Instr.makeSlice 96 (.int .i64 64) (.int .i64 64)).run Tryz.prog w = .ok (.slice (some ⟨w.heap.size, 0, none⟩) 64 64) (w.alloc (.cells (wRow []) 89)) := by kernel_rfl
set_option maxRecDepth 100000 in
set_option maxHeartbeats 8000000 in
theorem dwords_calls {w : World} {F : Nat → Prop} {A : Option Addr} {c : Nat} {L : Bs} (hL : L.length = 64) (hc : 64 ≤ c) (hp : RdB w F A L) :
    Calls Tryz.prog 87 #[.slice A 64 c] w fun e w' => e = .returned (.slice (some ⟨w.heap.size, 0, none⟩) 64 64) ∧ w'.heap[w.heap.size]? = some (.cells (wRow (wsT L 64)) 89 (0, 0)) ∧ Turn (fun _ => False) w w' := by
  obtain ⟨ad, rfl⟩ := hp.at_ (by omega)
  have HP := Lib.hid hp.lt
  have HL := Lib.hid hL
  have hm := hmk64 w
  clear hp hL
  have HW0 := Lib.hid (heap_alloc_new w (.cells (wRow []) 89))
  have HT0 := Lib.hid (show Turn (fun _ => False) w (w.alloc (.cells (wRow []) 89)) from Turn.alloc _ _)
  generalize hV0 : (w.alloc (.cells (wRow []) 89)) = V0 at *
  clear hV0
  go_enter Tryz.func87, Tryz.ntmps87
  go_wp2_with fail
  go_loopw [4] (fun v4 wr => ∃ t : Nat, t ≤ 16 ∧ v4 = .int .i64 t ∧ Hid (wr.heap[w.heap.size]? = some (.cells (wRow (wsT L t)) 89 (0, 0))) ∧ Hid (Turn (fun _ => False) w wr)) (fun v4 _ => 16 - (intOf v4).toNat)
  case atStart => exact ⟨0, by omega, rfl, HW0, HT0⟩
  case round =>
    clear HW0 HT0
    obtain ⟨t, ht, rfl, HW, HT⟩ := hrel
    have hwl := wsT_len L t
    have t0 : (0 : Int) ≤ (t : Int) := by omega
    by_cases h16 : t < 16
    · have h16' : (t : Int) < 16 := by omega
      have hz := cell_of_row wr w.heap.size t _ _ (0, 0) HW.out
      rw [wRow_zero (by omega) (by omega)] at hz
      have hfz := frozen_of_row wr w.heap.size t _ _ HW.out
      obtain ⟨q, hq⟩ : ∃ q, 4 * t = q := ⟨_, rfl⟩
      have hq' : (4 : Int) * (t : Int) = (q : Int) := by omega
      have q0 : (0 : Int) ≤ (q : Int) := by omega
      have q1 : (q : Int) < 64 := by omega
      have hqn : q ≤ 60 := by omega
      obtain ⟨r1, hr1⟩ : ∃ r, q + 1 = r := ⟨_, rfl⟩
      obtain ⟨r2, hr2⟩ : ∃ r, q + 2 = r := ⟨_, rfl⟩
      obtain ⟨r3, hr3⟩ : ∃ r, q + 3 = r := ⟨_, rfl⟩
      have e1 : (q : Int) + 1 = (r1 : Int) := by omega
      have e2 : (q : Int) + 2 = (r2 : Int) := by omega
      have e3 : (q : Int) + 3 = (r3 : Int) := by omega
      have p1 : (0 : Int) ≤ (r1 : Int) := by omega
      have p2 : (0 : Int) ≤ (r2 : Int) := by omega
      have p3 : (0 : Int) ≤ (r3 : Int) := by omega
      have m1 : (r1 : Int) < 64 := by omega
      have m2 : (r2 : Int) < 64 := by omega
      have m3 : (r3 : Int) < 64 := by omega
      have w0 : IntKind.i64.wrap (q : Int) = (q : Int) := IntWalk.i64_in _ ⟨by omega, by omega⟩
      have w1 : IntKind.i64.wrap (r1 : Int) = (r1 : Int) := IntWalk.i64_in _ ⟨by omega, by omega⟩
      have w2 : IntKind.i64.wrap (r2 : Int) = (r2 : Int) := IntWalk.i64_in _ ⟨by omega, by omega⟩
      have w3 : IntKind.i64.wrap (r3 : Int) = (r3 : Int) := IntWalk.i64_in _ ⟨by omega, by omega⟩
      have HPr : RdB wr (fun b => b < w.heap.size) (some ad) L := HP.out.keep fun a v ha hv => ⟨ha, turn_cell (F := fun b => b < w.heap.size) HT.out (fun b _ _ h => h) a v ha hv⟩
      have c0 : wr.cell? (ad.add q) = _ := HPr.get (by rw [HL.out]; omega)
      have c1 : wr.cell? (ad.add r1) = _ := HPr.get (by rw [HL.out]; omega)
      have c2 : wr.cell? (ad.add r2) = _ := HPr.get (by rw [HL.out]; omega)
      have c3 : wr.cell? (ad.add r3) = _ := HPr.get (by rw [HL.out]; omega)
      clear HPr
      have HNX := Lib.hid (show wsT L (t + 1) = wsT L t ++ [UInt32.ofNat (((L.getD q 0).toNat * 16777216 + (L.getD (q + 1) 0).toNat * 65536) + ((L.getD (q + 2) 0).toNat * 256 + (L.getD (q + 3) 0).toNat))] by
        rw [wsT, stepW, hwl, if_pos h16, ← hq]
        rfl)
      rw [hr1, hr2, hr3] at HNX
      generalize L.getD q 0 = b0 at *
      generalize L.getD r1 0 = b1 at *
      generalize L.getD r2 0 = b2 at *
      generalize L.getD r3 0 = b3 at *
      have HE := Lib.hid (or4_int b0 b1 b2 b3)
      have l0 := b0.toNat_lt
      have l1 := b1.toNat_lt
      have l2 := b2.toNat_lt
      have l3 := b3.toNat_lt
      generalize (UInt32.ofNat ((b0.toNat * 16777216 + b1.toNat * 65536) + (b2.toNat * 256 + b3.toNat))) = x at *
      generalize b0.toNat = y0 at *
      generalize b1.toNat = y1 at *
      generalize b2.toNat = y2 at *
      generalize b3.toNat = y3 at *
      clear hq hr1 hr2 hr3
      have u0 : IntKind.u32.wrap (y0 : Int) = (y0 : Int) := wraps_u32 _ (by omega) (by omega)
      have u1 : IntKind.u32.wrap (y1 : Int) = (y1 : Int) := wraps_u32 _ (by omega) (by omega)
      have u2 : IntKind.u32.wrap (y2 : Int) = (y2 : Int) := wraps_u32 _ (by omega) (by omega)
      have u3 : IntKind.u32.wrap (y3 : Int) = (y3 : Int) := wraps_u32 _ (by omega) (by omega)
      have s0 : IntKind.u32.wrap ((y0 : Int) * 16777216) = (y0 : Int) * 16777216 := wraps_u32 _ (by omega) (by omega)
      have s1 : IntKind.u32.wrap ((y1 : Int) * 65536) = (y1 : Int) * 65536 := wraps_u32 _ (by omega) (by omega)
      have s2 : IntKind.u32.wrap ((y2 : Int) * 256) = (y2 : Int) * 256 := wraps_u32 _ (by omega) (by omega)
      have t64 : (t : Int) < 64 := by omega
      go_wp2_with fail
      go_still_tail 36, (by kernel_rfl)
      change wpList _ _ _ _ _ wr.drew
      rw [HE.out]
      have hset := heap_setCell_same wr w.heap.size t _ _ (uw x) HW.out
      rw [show (wRow (wsT L t)).setIfInBounds t (uw x) = wRow (wsT L (t + 1)) by
        have := wRow_set (wsT L t) x (by omega)
        rw [hwl] at this
        rw [this, HNX.out]] at hset
      have HS := Lib.hid hset
      have HT2 := Lib.hid ((Turn.trans HT.out (Turn.setCell (fp := fun k => k = w.heap.size) wr ⟨w.heap.size, t, none⟩ (uw x) rfl) (fun k hk hlt => by omega) : Turn (fun _ => False) w (wr.setCell ⟨w.heap.size, t, none⟩ (uw x))).drew 1)
      clear hset
      go_wp2
      exact ⟨⟨t + 1, by omega, by go_num, HS, HT2⟩, by simp [intOf]; omega⟩
    · have hte : t = 16 := by omega
      subst hte
      go_wp2_with fail
      go_loopw [5, 6, 7, 8, 9] (fun v5 _ _ _ _ wr => ∃ t : Nat, 16 ≤ t ∧ t ≤ 64 ∧ v5 = .int .i64 t ∧ Hid (wr.heap[w.heap.size]? = some (.cells (wRow (wsT L t)) 89 (0, 0))) ∧ Hid (Turn (fun _ => False) w wr)) (fun v5 _ _ _ _ _ => 64 - (intOf v5).toNat)
      case atStart => exact ⟨16, by omega, by omega, rfl, HW, HT⟩
      case round =>
        clear HW HT hwl h16 t0 ht
        obtain ⟨t, ht16, ht, rfl, HW, HT⟩ := hrel
        have hwl := wsT_len L t
        have t0 : (0 : Int) ≤ (t : Int) := by omega
        by_cases h64 : t < 64
        · have h64' : (t : Int) < 64 := by omega
          have h16 : ¬ t < 16 := by omega
          have hz := cell_of_row wr w.heap.size t _ _ (0, 0) HW.out
          rw [wRow_zero (by omega) h64] at hz
          have hfz := frozen_of_row wr w.heap.size t _ _ HW.out
          obtain ⟨a15, ha15⟩ : ∃ a, t - 15 = a := ⟨_, rfl⟩
          obtain ⟨a2, ha2⟩ : ∃ a, t - 2 = a := ⟨_, rfl⟩
          obtain ⟨a7, ha7⟩ : ∃ a, t - 7 = a := ⟨_, rfl⟩
          obtain ⟨a16, ha16⟩ : ∃ a, t - 16 = a := ⟨_, rfl⟩
          have e15 : (t : Int) - 15 = (a15 : Int) := by omega
          have e2 : (t : Int) - 2 = (a2 : Int) := by omega
          have e7 : (t : Int) - 7 = (a7 : Int) := by omega
          have e16 : (t : Int) - 16 = (a16 : Int) := by omega
          have p15 : (0 : Int) ≤ (a15 : Int) := by omega
          have p2 : (0 : Int) ≤ (a2 : Int) := by omega
          have p7 : (0 : Int) ≤ (a7 : Int) := by omega
          have p16 : (0 : Int) ≤ (a16 : Int) := by omega
          have l15 : (a15 : Int) < 64 := by omega
          have l2 : (a2 : Int) < 64 := by omega
          have l7 : (a7 : Int) < 64 := by omega
          have l16 : (a16 : Int) < 64 := by omega
          have c15 := cell_of_row wr w.heap.size a15 _ _ (0, 0) HW.out
          rw [wRow_get _ (by omega)] at c15
          have c2 := cell_of_row wr w.heap.size a2 _ _ (0, 0) HW.out
          rw [wRow_get _ (by omega)] at c2
          have c7 := cell_of_row wr w.heap.size a7 _ _ (0, 0) HW.out
          rw [wRow_get _ (by omega)] at c7
          have c16 := cell_of_row wr w.heap.size a16 _ _ (0, 0) HW.out
          rw [wRow_get _ (by omega)] at c16
          have HNX := Lib.hid (show wsT L (t + 1) = wsT L t ++ [wNext ((wsT L t).getD a15 0) ((wsT L t).getD a2 0) ((wsT L t).getD a7 0) ((wsT L t).getD a16 0)] by
            rw [wsT, stepW, hwl, if_neg h16, ha15, ha2, ha7, ha16])
          generalize (wsT L t).getD a15 0 = x15 at *
          generalize (wsT L t).getD a2 0 = x2 at *
          generalize (wsT L t).getD a7 0 = x7 at *
          generalize (wsT L t).getD a16 0 = x16 at *
          have y0 : (0 : Int) ≤ (x2.toNat : Int) := by omega
          have y1 := u32_lt x2
          have y2 : (0 : Int) ≤ (x15.toNat : Int) := by omega
          have y3 := u32_lt x15
          have w7 : IntKind.i64.wrap (a7 : Int) = (a7 : Int) := IntWalk.i64_in _ ⟨by omega, by omega⟩
          have w16 : IntKind.i64.wrap (a16 : Int) = (a16 : Int) := IntWalk.i64_in _ ⟨by omega, by omega⟩
          have HE := Lib.hid (wNext_wrap x15 x2 x7 x16)
          clear ha15 ha2 ha7 ha16
          go_wp2_with fail
          refine (turned7 x15 _).mono ?_
          rintro e w' ⟨rfl, rfl⟩
          go_wp2_with fail
          refine (turned18 x15 _).mono ?_
          rintro e w' ⟨rfl, rfl⟩
          go_wp2_with fail
          refine (turned17 x2 _).mono ?_
          rintro e w' ⟨rfl, rfl⟩
          go_wp2_with fail
          refine (turned19 x2 _).mono ?_
          rintro e w' ⟨rfl, rfl⟩
          go_wp2_with fail
          go_still_tail 18, (by kernel_rfl)
          change wpList _ _ _ _ _ w'.drew
          rw [HE.out]
          have hset := heap_setCell_same w' w.heap.size t _ _ (uw (wNext x15 x2 x7 x16)) HW.out
          rw [show (wRow (wsT L t)).setIfInBounds t (uw (wNext x15 x2 x7 x16)) = wRow (wsT L (t + 1)) by
            have := wRow_set (wsT L t) (wNext x15 x2 x7 x16) (by omega)
            rw [hwl] at this
            rw [this, HNX.out]] at hset
          have HS := Lib.hid hset
          have HT2 := Lib.hid ((Turn.trans HT.out (Turn.setCell (fp := fun k => k = w.heap.size) w' ⟨w.heap.size, t, none⟩ (uw (wNext x15 x2 x7 x16)) rfl) (fun k hk hlt => by omega) : Turn (fun _ => False) w (w'.setCell ⟨w.heap.size, t, none⟩ (uw (wNext x15 x2 x7 x16)))).drew 1)
          clear hset
          go_wp2
          refine ⟨?_, by simp [intOf]; omega⟩
          refine ⟨.int .i64 ((t : Int) + 1), _, _, _, _, _, _, _, _, _, _, _, _, _, _, _, _, _, _, _, _, _, _, _, _, _, _, _, _, _, _, _, _, _, _, _, _, _, _, _, _, _, _, _, _, _, _, _, _, _, _, _, _, ⟨t + 1, by omega, by omega, by go_num, HS, HT2⟩, rfl⟩
        · have hte : t = 64 := by omega
          subst hte
          go_wp2_with fail
          go_ret
          exact ⟨rfl, HW.out, HT.out⟩
end Go.Proofs.YthgjhfcafdepcaaGreatDoor.Sh

/-
  SHA-256, the document's: a block worked in.
-/
import Derived.Test.YthgjhfcafdepcaaGreatDoorShaK
namespace Go.Proofs.YthgjhfcafdepcaaGreatDoor.Sh
open Go.RowKit Go.Proofs.YthgjhfcafdepcaaGreatDoor.B
open Go.Proofs.YthgjhfcafdepcaaGreatDoor.M hiding Bs
open Go.Proofs.YthgjhfcafdepcaaGreatDoor.C (QRow Turn)
set_option linter.unusedVariables false
set_option linter.unusedSimpArgs false

theorem info_u32 : (Tryz.prog.info? 89).map (fun i => (i.zero, i.size, i.bytes)) = some (some (.int .u32 0), 1, 4) := by kernel_rfl
/-- eight words that lie somewhere. -/
structure V8C (wx : World) (g off : Nat) (s : V8) : Prop where
  c0 : wx.cell? ⟨g, off, none⟩ = some (uw s.a)
  c1 : wx.cell? ⟨g, off + 1, none⟩ = some (uw s.b)
  c2 : wx.cell? ⟨g, off + 2, none⟩ = some (uw s.c)
  c3 : wx.cell? ⟨g, off + 3, none⟩ = some (uw s.d)
  c4 : wx.cell? ⟨g, off + 4, none⟩ = some (uw s.e)
  c5 : wx.cell? ⟨g, off + 5, none⟩ = some (uw s.f)
  c6 : wx.cell? ⟨g, off + 6, none⟩ = some (uw s.g)
  c7 : wx.cell? ⟨g, off + 7, none⟩ = some (uw s.h)
theorem V8C.of_row {wx : World} {g : Nat} {s : V8} {t : TypeId} (h : wx.heap[g]? = some (.cells (sV s) t (0, 0))) : V8C wx g 0 s := by
  have c := fun i => cell_of_row wx g i _ _ (0, 0) h
  exact ⟨c 0, c 1, c 2, c 3, c 4, c 5, c 6, c 7⟩
structure D9 (w : World) (L : Bs) (s : V8) (sb kb t vb off cp : Nat) (wx : World) : Prop where
  k : wx.heap[kb]? = some (.cells kV 89 (0, 0))
  ws : wx.heap[w.heap.size]? = some (.cells (wRow (wsT L 64)) 89 (0, 0))
  sc : wx.heap[sb]? = some (.cells (sV s) 89 (0, 0))
  turn : Turn (fun _ => False) w wx
  v : V8C wx vb off (vT (wsT L 64) s t)
  cap : 8 ≤ cp
  sl : sb < w.heap.size
  kl : w.heap.size < kb
  fresh : 0 < t → off = 0 ∧ cp = 8 ∧ wx.heap[vb]? = some (.cells (sV (vT (wsT L 64) s t)) 89 (0, 0)) ∧ w.heap.size < vb
theorem D9.drewN {w wx : World} {L : Bs} {s : V8} {sb kb t vb off cp : Nat} (h : D9 w L s sb kb t vb off cp wx) (n : Nat) : D9 w L s sb kb t vb off cp (wx.drewN n) :=
  ⟨h.k, h.ws, h.sc, h.turn.drew n, ⟨h.v.c0, h.v.c1, h.v.c2, h.v.c3, h.v.c4, h.v.c5, h.v.c6, h.v.c7⟩, h.cap, h.sl, h.kl, h.fresh⟩
theorem D9.kAt {w wx : World} {L : Bs} {s : V8} {sb kb t vb off cp : Nat} (h : D9 w L s sb kb t vb off cp wx) (ht : t < 64) : wx.cell? ⟨kb, t, none⟩ = some (uw (kC.getD t 0)) := by
  rw [cell_of_row wx kb t _ _ (0, 0) h.k]
  unfold kV
  rw [List.getElem?_toArray, List.getElem?_map, List.getD_eq_getElem?_getD, List.getElem?_eq_getElem (by exact ht)]
  rfl
theorem D9.wAt {w wx : World} {L : Bs} {s : V8} {sb kb t vb off cp : Nat} (h : D9 w L s sb kb t vb off cp wx) (ht : t < 64) : wx.cell? ⟨w.heap.size, t, none⟩ = some (uw ((wsT L 64).getD t 0)) := by
  rw [cell_of_row wx w.heap.size t _ _ (0, 0) h.ws, wRow_get _ (by rw [wsT_len]; exact ht)]
theorem D9.next {w wx : World} {L : Bs} {s v' : V8} {sb kb t vb off cp : Nat} (h : D9 w L s sb kb t vb off cp wx) (hv : vT (wsT L 64) s (t + 1) = v') :
    D9 w L s sb kb (t + 1) wx.heap.size 0 8 (wx.alloc (.cells #[uw v'.a, uw v'.b, uw v'.c, uw v'.d, uw v'.e, uw v'.f, uw v'.g, uw v'.h] 89)).drew := by
  have hn : (wx.alloc (.cells (sV v') 89)).heap[wx.heap.size]? = some (.cells (sV v') 89 (0, 0)) := heap_alloc_new _ _
  have hl := h.turn.size
  have hk := lt_of_heap h.k
  have hw := lt_of_heap h.ws
  have hs := lt_of_heap h.sc
  subst hv
  exact ⟨(alloc_old _ hk).trans h.k, (alloc_old _ hw).trans h.ws, (alloc_old _ hs).trans h.sc, (turn_then h.turn (Turn.alloc _ _)).drew 1, V8C.of_row (t := 89) hn, Nat.le_refl _, h.sl, h.kl, fun _ => ⟨rfl, rfl, hn, by omega⟩⟩
/-- the last loop: these many are added. -/
def mixW (s V : V8) (t : Nat) : V8 := ⟨if 0 < t then V.a + s.a else V.a, if 1 < t then V.b + s.b else V.b, if 2 < t then V.c + s.c else V.c, if 3 < t then V.d + s.d else V.d, if 4 < t then V.e + s.e else V.e, if 5 < t then V.f + s.f else V.f, if 6 < t then V.g + s.g else V.g, if 7 < t then V.h + s.h else V.h⟩
theorem mixW_all (s V : V8) : mixW s V 8 = addV s V := by
  simp only [mixW, addV]
  congr 1 <;> simp [UInt32.add_comm]
theorem mixW_0 (s V : V8) : mixW s V 0 = V := rfl
theorem mixW_get (s V : V8) {t : Nat} (ht : t < 8) : wd8 (mixW s V t) t = wd8 V t := by
  have h : t = 0 ∨ t = 1 ∨ t = 2 ∨ t = 3 ∨ t = 4 ∨ t = 5 ∨ t = 6 ∨ t = 7 := by omega
  rcases h with rfl | rfl | rfl | rfl | rfl | rfl | rfl | rfl <;> rfl
theorem mixW_set (s V : V8) {t : Nat} (ht : t < 8) : (sV (mixW s V t)).setIfInBounds t (uw (wd8 V t + wd8 s t)) = sV (mixW s V (t + 1)) := by
  have h : t = 0 ∨ t = 1 ∨ t = 2 ∨ t = 3 ∨ t = 4 ∨ t = 5 ∨ t = 6 ∨ t = 7 := by omega
  rcases h with rfl | rfl | rfl | rfl | rfl | rfl | rfl | rfl <;> rfl
structure D11 (w : World) (s V : V8) (sb t vb : Nat) (wx : World) : Prop where
  sc : wx.heap[sb]? = some (.cells (sV s) 89 (0, 0))
  v : wx.heap[vb]? = some (.cells (sV (mixW s V t)) 89 (0, 0))
  turn : Turn (fun _ => False) w wx
  sl : sb < w.heap.size
  vl : w.heap.size < vb
theorem D11.sAt {w wx : World} {s V : V8} {sb t vb : Nat} (h : D11 w s V sb t vb wx) (ht : t < 8) : wx.cell? ⟨sb, t, none⟩ = some (uw (wd8 s t)) := by
  rw [cell_of_row wx sb t _ _ (0, 0) h.sc, sV_get _ ht]
theorem D11.vAt {w wx : World} {s V : V8} {sb t vb : Nat} (h : D11 w s V sb t vb wx) (ht : t < 8) : wx.cell? ⟨vb, t, none⟩ = some (uw (wd8 V t)) ∧ wx.frozen? ⟨vb, t, none⟩ = false := by
  refine ⟨?_, frozen_of_row wx vb t _ _ h.v⟩
  rw [cell_of_row wx vb t _ _ (0, 0) h.v, sV_get _ ht, mixW_get s V ht]
theorem D11.next {w wx : World} {s V : V8} {sb t vb : Nat} (h : D11 w s V sb t vb wx) (ht : t < 8) : D11 w s V sb (t + 1) vb (wx.setCell ⟨vb, t, none⟩ (uw (wd8 V t + wd8 s t))).drew := by
  have hs := h.sl
  have hv := h.vl
  refine ⟨(heap_setCell_other _ _ _ _ (by show sb ≠ vb; omega)).trans h.sc, ?_, (Turn.trans h.turn (Turn.setCell (fp := fun k => k = vb) wx ⟨vb, t, none⟩ _ rfl) (fun k hk hlt => by omega)).drew 1, hs, hv⟩
  have := heap_setCell_same wx vb t _ _ (uw (wd8 V t + wd8 s t)) h.v
  rw [mixW_set s V ht] at this
  exact this
theorem cells8 (s : V8) (w : World) (sb : Nat) (h : w.heap[sb]? = some (.cells (sV s) 89 (0, 0))) : ∀ j u, (sV s).toList[j]? = some u → w.cell? ((⟨sb, 0, none⟩ : Addr).add j) = some u := fun j u hu => by
  rw [Addr.add_lit, cell_of_row w sb _ _ _ (0, 0) h]
  simpa using hu
theorem v8_of_q {w : World} {v : Value} {s : V8} (h : QRow w 89 1 v 8 (sV s).toList) : ∃ g off cap, v = .slice (some ⟨g, off, none⟩) 8 cap ∧ 8 ≤ cap ∧ V8C w g off s := by
  rcases h.2 with ⟨_, h0⟩ | ⟨g, off, cap, cur, hv, hg, hn, ho, hc, ht⟩
  · cases h0
  · refine ⟨g, off, cap, hv, hn, ?_⟩
    have c : ∀ i u, (sV s).toList[i]? = some u → w.cell? ⟨g, off + i, none⟩ = some u := fun i u hi => by
      rw [cell_of_row w g _ _ _ (0, 0) hg]
      rw [← ht, List.getElem?_take] at hi
      split at hi
      · rw [List.getElem?_drop] at hi
        simpa using hi
      · cases hi
    exact ⟨c 0 _ rfl, c 1 _ rfl, c 2 _ rfl, c 3 _ rfl, c 4 _ rfl, c 5 _ rfl, c 6 _ rfl, c 7 _ rfl⟩
set_option maxRecDepth 100000 in
set_option maxHeartbeats 8000000 in
theorem dblock_calls {w : World} {F : Nat → Prop} {A : Option Addr} {c sb : Nat} {s : V8} {L : Bs} (hL : L.length = 64) (hc : 64 ≤ c) (hp : RdB w F A L) (hs : w.heap[sb]? = some (.cells (sV s) 89 (0, 0))) :
    Calls Tryz.prog 75 #[.slice (some ⟨sb, 0, none⟩) 8 8, .slice A 64 c] w fun e w' => ∃ b, e = .returned (.slice (some ⟨b, 0, none⟩) 8 8) ∧ w'.heap[b]? = some (.cells (sV (blockF s L)) 89 (0, 0)) ∧ w.heap.size < b ∧ Turn (fun _ => False) w w' := by
  have HS := Lib.hid hs
  have HWC := Lib.hid (dwords_calls hL hc hp)
  clear hL hp
  go_enter Tryz.func75, Tryz.ntmps75
  go_wp2_with fail
  refine HWC.out.mono ?_
  rintro e w1 ⟨rfl, hw1, hT1⟩
  have hsl := lt_of_heap hs
  have H1 := Lib.hid (show w1.heap[sb]? = _ from (hT1.block _ hsl (fun h => h)).trans hs)
  have HW1 := Lib.hid hw1
  have HT1 := Lib.hid hT1
  have hsz1 := lt_of_heap hw1
  clear hw1 hT1 hs HWC HS
  go_wp2_with fail
  refine (dconst_calls _).mono ?_
  rintro e w2 ⟨rfl, rfl⟩
  have H2 := Lib.hid ((alloc_old (.cells kV 89) (lt_of_heap H1.out)).trans H1.out)
  have HC := Lib.hid (cells8 s _ sb H2.out)
  obtain ⟨i0, hi, hz0, hz1, hz2⟩ := info_parts info_u32
  go_wp2_with (at_builtin; go_loud (refine C.wpList_append_q rfl _ _ 96 rfl 89 i0 (.int .u32 0) 1 4 Tryz.underlying96 hi hz0 hz1 hz2 rfl (by decide) _ 0 [] rfl (QRow.nil _ _ _) ⟨sb, 0, none⟩ 8 8 (sV s).toList rfl rfl HC.out (fun u hu => by simp [sV] at hu; rcases hu with rfl | rfl | rfl | rfl | rfl | rfl | rfl | rfl <;> rfl) (by decide) (by decide) ?_))
  intro v' w3 hq hg _
  have hT3 : Turn (fun _ => False) (w1.alloc (.cells kV 89)) w3 := Turn.grown hg (fun k hk => by cases hk)
  have hT2 : Turn (fun _ => False) w1 (w1.alloc (.cells kV 89)) := Turn.alloc _ _
  have hsz2 : (w1.alloc (.cells kV 89)).heap.size = w1.heap.size + 1 := by simp
  have hkn : (w1.alloc (.cells kV 89)).heap[w1.heap.size]? = some (.cells kV 89 (0, 0)) := heap_alloc_new _ _
  obtain ⟨g, off, cp, rfl, hcp, hv⟩ := v8_of_q hq
  have H9 := Lib.hid (show D9 w L s sb w1.heap.size 0 g off cp w3 from ⟨(hT3.block _ (by omega) (fun h => h)).trans hkn, (hT3.block _ (by omega) (fun h => h)).trans ((alloc_old _ hsz1).trans HW1.out), (hT3.block _ (lt_of_heap H2.out) (fun h => h)).trans H2.out, turn_then HT1.out (turn_then hT2 hT3), hv, hcp, hsl, hsz1, fun h => absurd h (by omega)⟩)
  obtain ⟨kb, hkb⟩ : ∃ kb, w1.heap.size = kb := ⟨_, rfl⟩
  rw [hkb] at H9 ⊢
  clear hT3 hT2 hsz2 hkn hcp hv hq hg H1 HW1 HT1 hsz1 H2 HC hi hz0 hz1 hz2 hkb
  go_wp2_with fail
  go_loopw [7, 8, 9, 10, 11, 12] (fun v7 v8 _ _ _ _ wr => ∃ (t vb off cp : Nat), t ≤ 64 ∧ v7 = .slice (some ⟨vb, off, none⟩) 8 cp ∧ v8 = .int .i64 t ∧ Hid (D9 w L s sb kb t vb off cp wr)) (fun _ v8 _ _ _ _ _ => 64 - (intOf v8).toNat)
  case atStart => exact ⟨0, g, off, cp, by omega, rfl, rfl, H9⟩
  case round =>
    clear H9
    obtain ⟨t, vb, off, cp, ht, rfl, rfl, H9⟩ := hrel
    by_cases h64 : t < 64
    · have h64' : (t : Int) < 64 := by omega
      have t0 : (0 : Int) ≤ (t : Int) := by omega
      have hcp := H9.out.cap
      have HNX := Lib.hid (show vT (wsT L 64) s (t + 1) = roundV (vT (wsT L 64) s t) (kC.getD t 0) ((wsT L 64).getD t 0) from rfl)
      have hk := H9.out.kAt h64
      have hw := H9.out.wAt h64
      obtain ⟨kt, hkt⟩ : ∃ kt, kC.getD t 0 = kt := ⟨_, rfl⟩
      obtain ⟨wt, hwt⟩ : ∃ wt, (wsT L 64).getD t 0 = wt := ⟨_, rfl⟩
      have hv := H9.out.v
      obtain ⟨V, hVV⟩ : ∃ V, vT (wsT L 64) s t = V := ⟨_, rfl⟩
      have HVV := Lib.hid hVV
      rw [hVV] at hv HNX
      rw [hkt] at hk HNX
      rw [hwt] at hw HNX
      have HV := Lib.hid hv
      clear hkt hwt hVV hv
      obtain ⟨c0, c1, c2, c3, c4, c5, c6, c7⟩ := HV.out
      go_wp2_with fail
      refine wp_region_quiet_lit (by kernel_rfl) (by kernel_rfl) ?_
      quiet_step (fail)
      quiet_step (fail)
      quiet_step (fail)
      quiet_step (fail)
      quiet_step (exact Calls.quiet_of_same (turned6 V.e _))
      quiet_step (fail)
      quiet_step (exact Calls.quiet_of_same (turned11 V.e _))
      quiet_step (fail)
      quiet_step (fail)
      quiet_step (exact Calls.quiet_of_same (turned25 V.e _))
      quiet_step (fail)
      quiet_step (fail)
      quiet_step (fail)
      quiet_step (fail)
      quiet_step (fail)
      quiet_step (fail)
      quiet_step (fail)
      quiet_step (fail)
      quiet_step (fail)
      quiet_step (fail)
      quiet_step (fail)
      quiet_step (fail)
      quiet_step (fail)
      quiet_step (fail)
      quiet_step (fail)
      quiet_step (fail)
      quiet_step (fail)
      quiet_step (fail)
      quiet_step (fail)
      quiet_step (fail)
      quiet_step (fail)
      quiet_step (fail)
      quiet_step (fail)
      quiet_step (fail)
      quiet_step (fail)
      quiet_step (fail)
      refine wpQuiet_nil ?_
      intro _ hw'
      obtain ⟨nq, hw''⟩ := hw'
      subst hw''
      have HX := Lib.hid (show ((rx V kt wt).toNat : Int) = _ from (rx_int V kt wt).symm)
      generalize hWe : World.drewN wr _ = we
      have H9e := Lib.hid (show D9 w L s sb kb t vb off cp we by rw [← hWe]; exact H9.out.drewN _)
      have HVe := Lib.hid (show V8C we vb off V by rw [← hWe]; exact ⟨c0, c1, c2, c3, c4, c5, c6, c7⟩)
      clear hWe c0 c1 c2 c3 c4 c5 c6 c7 HV hk hw H9
      simp only [max_u, xor_u, and_u, wadd_u, not_u]
      rw [show V.h + (rot V.e 6 ^^^ rot V.e 11 ^^^ rot V.e 25) + (V.e &&& V.f ^^^ ~~~V.e &&& V.g) + kt + wt = rx V kt wt from rfl]
      obtain ⟨X, hX⟩ : ∃ X, rx V kt wt = X := ⟨_, rfl⟩
      rw [hX]
      have HXX := Lib.hid hX
      clear hX HX
      obtain ⟨c0, c1, c2, c3, c4, c5, c6, c7⟩ := HVe.out
      go_wp2_with fail
      refine wp_region_quiet_lit (by kernel_rfl) (by kernel_rfl) ?_
      quiet_step (fail)
      quiet_step (exact Calls.quiet_of_same (turned2 V.a _))
      quiet_step (fail)
      quiet_step (exact Calls.quiet_of_same (turned13 V.a _))
      quiet_step (fail)
      quiet_step (fail)
      quiet_step (exact Calls.quiet_of_same (turned22 V.a _))
      quiet_step (fail)
      quiet_step (fail)
      quiet_step (fail)
      quiet_step (fail)
      quiet_step (fail)
      quiet_step (fail)
      quiet_step (fail)
      quiet_step (fail)
      quiet_step (fail)
      quiet_step (fail)
      quiet_step (fail)
      quiet_step (fail)
      quiet_step (fail)
      quiet_step (fail)
      quiet_step (fail)
      quiet_step (fail)
      quiet_step (fail)
      quiet_step (fail)
      quiet_step (fail)
      quiet_step (fail)
      quiet_step (fail)
      quiet_step (fail)
      refine wpQuiet_nil ?_
      intro _ hw'
      obtain ⟨nq, hw''⟩ := hw'
      subst hw''
      generalize hWf : World.drewN we _ = wf
      have H9f := Lib.hid (show D9 w L s sb kb t vb off cp wf by rw [← hWf]; exact H9e.out.drewN _)
      have HVf := Lib.hid (show V8C wf vb off V by rw [← hWf]; exact ⟨c0, c1, c2, c3, c4, c5, c6, c7⟩)
      clear hWf c0 c1 c2 c3 c4 c5 c6 c7 HVe H9e
      simp only [max_u, xor_u, and_u, wadd_u, not_u]
      rw [show (rot V.a 2 ^^^ rot V.a 13 ^^^ rot V.a 22) + (V.a &&& V.b ^^^ V.a &&& V.c ^^^ V.b &&& V.c) = ry V from rfl]
      obtain ⟨Y, hY⟩ : ∃ Y, ry V = Y := ⟨_, rfl⟩
      rw [hY]
      have HYY := Lib.hid hY
      clear hY
      obtain ⟨c0, c1, c2, c3, c4, c5, c6, c7⟩ := HVf.out
      have HA1 := Lib.hid (wadd_u X Y)
      have HA2 := Lib.hid (wadd_u V.d X)
      have HNN := Lib.hid (H9f.out.next (v' := ⟨X + Y, V.a, V.b, V.c, V.d + X, V.e, V.f, V.g⟩) (by rw [HNX.out, ← HXX.out, ← HYY.out]; rfl))
      go_wp2_with fail
      go_still_tail 22, (by kernel_rfl)
      change wpList _ _ _ _ _ wf.drew
      rw [HA1.out, HA2.out]
      have HA3 := Lib.hid (add_u X Y)
      have HA4 := Lib.hid (add_u V.d X)
      go_wp2
      rw [HA3.out, HA4.out]
      exact ⟨⟨t + 1, _, _, _, by omega, rfl, by go_num, HNN⟩, by simp [intOf]; omega⟩
    · have hte : t = 64 := by omega
      subst hte
      obtain ⟨rfl, rfl, hvr, hvl⟩ := H9.out.fresh (by omega)
      have H11 := Lib.hid (show D11 w s (vT (wsT L 64) s 64) sb 0 vb wr from ⟨H9.out.sc, hvr, H9.out.turn, H9.out.sl, hvl⟩)
      have HBF := Lib.hid (show addV s (vT (wsT L 64) s 64) = blockF s L from rfl)
      clear H9 hvr
      obtain ⟨V, hVV⟩ : ∃ V, vT (wsT L 64) s 64 = V := ⟨_, rfl⟩
      rw [hVV] at H11 HBF
      clear hVV
      go_wp2_with fail
      go_loopw [13] (fun v13 wr => ∃ t : Nat, t ≤ 8 ∧ v13 = .int .i64 t ∧ Hid (D11 w s V sb t vb wr)) (fun v13 _ => 8 - (intOf v13).toNat)
      case atStart => exact ⟨0, by omega, rfl, H11⟩
      case round =>
        clear H11
        obtain ⟨t, ht, rfl, H11⟩ := hrel
        by_cases h8 : t < 8
        · have h8' : (t : Int) < 8 := by omega
          have t0 : (0 : Int) ≤ (t : Int) := by omega
          have hsx := H11.out.sAt h8
          obtain ⟨hvy, hfy⟩ := H11.out.vAt h8
          have HNX := Lib.hid (H11.out.next h8)
          generalize wd8 s t = x at *
          generalize wd8 V t = y at *
          have HADW := Lib.hid (wadd_u y x)
          have HADD := Lib.hid (add_u y x)
          go_wp2_with fail
          go_still_tail 11, (by kernel_rfl)
          change wpList _ _ _ _ _ wr.drew
          rw [HADW.out]
          go_wp2
          rw [HADD.out]
          refine ⟨?_, by simp [intOf]; omega⟩
          exact ⟨.int .i64 ((t : Int) + 1), _, _, _, _, _, _, _, _, _, _, _, _, _, _, _, _, ⟨t + 1, by omega, by go_num, HNX⟩, rfl⟩
        · have hte : t = 8 := by omega
          subst hte
          have hfv := H11.out.v
          rw [mixW_all, HBF.out] at hfv
          have HF := Lib.hid hfv
          have HT := Lib.hid H11.out.turn
          clear hfv H11
          go_wp2_with fail
          go_ret
          exact ⟨vb, rfl, HF.out, hvl, HT.out⟩
end Go.Proofs.YthgjhfcafdepcaaGreatDoor.Sh

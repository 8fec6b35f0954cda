/-
  SHA-256, the document's: the sum.
-/
import Derived.Test.YthgjhfcafdepcaaGreatDoorShaL
namespace Go.Proofs.YthgjhfcafdepcaaGreatDoor.Sh
open Go.RowKit Go.Proofs.YthgjhfcafdepcaaGreatDoor.B
open Go.Proofs.YthgjhfcafdepcaaGreatDoor.M hiding Bs
open Go.Proofs.YthgjhfcafdepcaaGreatDoor.C (QRow Turn)
set_option linter.unusedVariables false
set_option linter.unusedSimpArgs false

theorem RdB.take {w : World} {F : Nat → Prop} {A : Option Addr} {q : Bs} (h : RdB w F A q) (n : Nat) : RdB w F A (q.take n) := fun i x hx => by
  rw [List.getElem?_take] at hx
  split at hx
  · exact h i x hx
  · cases hx
theorem o_b (x : UInt32) (k : Nat) (h : 0 < k) : (x.toNat : Int) / (k : Int) % 256 = ((UInt8.ofNat (x.toNat / k)).toNat : Int) := by
  rw [UInt8.toNat_ofNat', ← Int.natCast_ediv]
  omega
theorem o_b0 (x : UInt32) : (x.toNat : Int) % 256 = ((UInt8.ofNat x.toNat).toNat : Int) := by
  rw [UInt8.toNat_ofNat']
  omega
theorem one_vb (b : UInt8) (z : Int) (h : z = (b.toNat : Int)) : [Value.int .u8 z] = [b].map Nu.vb := by rw [h]; rfl
theorem filled_len (p : Bs) (n : Nat) (h : p.length = n) : (p ++ padB n).length = 64 * ((p ++ padB n).length / 64) ∧ 64 ≤ (p ++ padB n).length ∧ (p ++ padB n).length ≤ n + 73 := by
  have h1 := zeros_ok n
  have h2 := zeros_lt n
  rw [List.length_append, padB_len, h]
  omega
set_option maxRecDepth 100000 in
set_option maxHeartbeats 8000000 in
theorem dsum_calls {w : World} {F : Nat → Prop} {A : Option Addr} {n c : Nat} {p : Bs} (hn : p.length = n) (hL : n ≤ 1000000) (hp : RdB w F A p) :
    Calls Tryz.prog 54 #[.slice A n c] w fun e w' => ∃ v, e = .returned v ∧ Nu.BOwn w' w.heap.size v (shaF p) ∧ Below w.heap.size w w' := by
  have HN := Lib.hid hn
  have HPP := Lib.hid hp
  clear hn hp
  go_enter Tryz.func54, Tryz.ntmps54
  go_wp2_with fail
  refine (dstart_calls _).mono ?_
  rintro e w1 ⟨rfl, hw1⟩
  have hb1 : Below w.heap.size w w1 := by rw [hw1]; exact (Below.refl _ w).alloc (Nat.le_refl _) _
  have hs1 : w1.heap[w.heap.size]? = some (.cells (sV start8) 89 (0, 0)) := by rw [hw1]; exact heap_alloc_new _ _
  have hz1 : w.heap.size < w1.heap.size := lt_of_heap hs1
  have HB1 := Lib.hid hb1
  have HS1 := Lib.hid hs1
  have HF := Lib.hid (dfilled_calls (c := c) HN.out hL (HPP.out.below (F' := fun _ => True) hb1 (fun _ _ _ => trivial)))
  clear hw1 hb1 hs1 HPP
  go_wp2_with fail
  refine HF.out.mono ?_
  rintro e w2 ⟨v2, rfl, hown2, hb2⟩
  clear HF
  have HRD := Lib.hid (BOwn.rd (F := fun _ => True) hown2 (fun _ _ => trivial))
  obtain ⟨f1, f2, f3⟩ := filled_len p n HN.out
  have HSH := Lib.hid (show shaF p = outB (foldB start8 ((p ++ padB n).length / 64) (p ++ padB n)) by rw [← HN.out]; rfl)
  obtain ⟨fl, hfl⟩ : ∃ fl, p ++ padB n = fl := ⟨_, rfl⟩
  rw [hfl] at HRD HSH f1 f2 f3
  clear hfl hown2
  obtain ⟨A2, c2, rfl, hc2, hrd⟩ := HRD.out
  obtain ⟨ad, rfl⟩ := hrd.at_ (by omega)
  have HR := Lib.hid hrd
  clear HRD hrd
  obtain ⟨N, hN⟩ : ∃ N, fl.length = N := ⟨_, rfl⟩
  have HNL := Lib.hid hN
  rw [hN] at f1 f2 f3 hc2 HSH ⊢
  clear hN
  obtain ⟨m, hm⟩ : ∃ m, N / 64 = m := ⟨_, rfl⟩
  rw [hm] at f1 HSH
  have hN63 : N ≤ 9223372036854775807 := by omega
  have HB2 := Lib.hid hb2
  have HS2 := Lib.hid (show w2.heap[w.heap.size]? = some (.cells (sV start8) 89 (0, 0)) from (hb2.block _ hz1).trans HS1.out)
  have HT2 := Lib.hid (show Turn (fun _ => False) w w2 from turn_then (Turn.of_below HB1.out) (Turn.of_below hb2))
  have HT22 := Lib.hid (Turn.refl (fun _ => False) w2)
  have F1 := Lib.hid f1
  clear hb2 HB1 HS1 hm f1
  go_wp2_with fail
  go_loopw [3, 5] (fun v3 v5 wr => ∃ (k sb i : Nat), k ≤ m ∧ i = 64 * k ∧ v5 = .int .i64 i ∧ v3 = .slice (some ⟨sb, 0, none⟩) 8 8 ∧ Hid (wr.heap[sb]? = some (.cells (sV (foldB start8 k fl)) 89 (0, 0))) ∧ Hid (Turn (fun _ => False) w2 wr)) (fun _ v5 _ => N - (intOf v5).toNat)
  case atStart => exact ⟨0, w.heap.size, 0, by omega, rfl, rfl, rfl, HS2, HT22⟩
  case round =>
    clear HS2 HT22
    obtain ⟨k, sb, i, hk, hi, rfl, rfl, HS, HT⟩ := hrel
    have i0 : (0 : Int) ≤ (i : Int) := by omega
    have f1 := F1.out
    by_cases hkm : k < m
    · have hiN : (i : Int) < (N : Int) := by omega
      have hi64 : IntKind.i64.wrap ((i : Int) + 64) = (i : Int) + 64 := IntWalk.i64_in _ ⟨by omega, by omega⟩
      have hi65 : (i : Int) ≤ (i : Int) + 64 := by omega
      have hi66 : (i : Int) + 64 ≤ (c2 : Int) := by omega
      have hRr : RdB wr (fun _ => True) (some ad) fl := HR.out.keep fun a v _ hv => ⟨trivial, turn_cell (F := fun _ => True) HT.out (fun _ _ _ h => h) a v trivial hv⟩
      have hne : ¬ c2 = i := by omega
      have HCB := Lib.hid (dblock_calls (c := c2 - i) (L := (fl.drop i).take 64) (by rw [List.length_take, List.length_drop, HNL.out]; omega) (by omega) ((hRr.drop i).take 64) HS.out)
      have HNX := Lib.hid (show foldB start8 (k + 1) fl = blockF (foldB start8 k fl) ((fl.drop i).take 64) by rw [foldB_snoc, hi])
      have HI := Lib.hid hi
      clear hRr hi f1
      go_wp2_with fail
      rw [show i + 64 - i = 64 by omega]
      refine HCB.out.mono ?_
      rintro e w3 ⟨b, rfl, hb3, hlb, hT3⟩
      have HS3 := Lib.hid hb3
      rw [← HNX.out] at HS3
      have HT3 := Lib.hid (turn_then HT.out hT3)
      clear hb3 hT3 HCB
      go_wp2
      exact ⟨⟨k + 1, b, i + 64, by omega, by rw [HI.out]; omega, by go_num, rfl, HS3, HT3⟩, by simp [intOf]; omega⟩
    · have hkm : k = m := by omega
      have hiN : ¬ (i : Int) < (N : Int) := by omega
      have hsbl := lt_of_heap HS.out
      obtain ⟨wz, hwz⟩ : ∃ wz, wz = wr := ⟨_, rfl⟩
      subst hwz
      obtain ⟨S, hS⟩ : ∃ S, foldB start8 k fl = S := ⟨_, rfl⟩
      rw [hS] at HS
      have HFIN := Lib.hid (show outB S = shaF p by rw [HSH.out, ← hS, hkm])
      have HSC := Lib.hid (fun (V : World) (hb : Below wz.heap.size wz V) (t : Nat) (ht : t < 8) => show V.cell? ⟨sb, t, none⟩ = some (uw (wd8 S t)) by
        rw [cell_of_row V sb t _ _ (0, 0) ((hb.block _ hsbl).trans HS.out), sV_get _ ht])
      have HBW := Lib.hid (show Below w.heap.size w wz from (turn_then HT2.out HT.out).below (Nat.le_refl _) (fun _ _ h => h))
      have HO0 := Lib.hid (Nu.BOwn.nil wz wz.heap.size)
      have HBB0 := Lib.hid (Below.refl wz.heap.size wz)
      clear HS HT HT2 hS hkm f1 hi HSH hsbl
      go_wp2_with fail
      go_loopw [6, 7] (fun v6 v7 wx => ∃ t : Nat, t ≤ 8 ∧ v7 = .int .i64 t ∧ Hid (Nu.BOwn wx wz.heap.size v6 (outN S t)) ∧ Hid (Below wz.heap.size wz wx)) (fun _ v7 _ => 8 - (intOf v7).toNat)
      case atStart => exact ⟨0, Nat.zero_le _, rfl, HO0, HBB0⟩
      case round =>
        clear HO0 HBB0
        obtain ⟨t, ht, rfl, HO, HB⟩ := hrel
        have t0 : (0 : Int) ≤ (t : Int) := by omega
        by_cases h8 : t < 8
        · have h8' : (t : Int) < 8 := by omega
          have HE := Lib.hid (show outN S (t + 1) = outN S t ++ [UInt8.ofNat ((wd8 S t).toNat / 16777216)] ++ [UInt8.ofNat ((wd8 S t).toNat / 65536)] ++ [UInt8.ofNat ((wd8 S t).toNat / 256)] ++ [UInt8.ofNat (wd8 S t).toNat] by simp [outN, out4])
          have hql := outN_len S t
          obtain ⟨x, hx⟩ : ∃ x, wd8 S t = x := ⟨_, rfl⟩
          have HCX := Lib.hid (fun V hb => HSC.out V hb t h8)
          rw [hx] at HE HCX
          obtain ⟨q0, hq0⟩ : ∃ q, outN S t = q := ⟨_, rfl⟩
          rw [hq0] at HO HE hql
          have hxl := u32_lt x
          have x0 : (0 : Int) ≤ (x.toNat : Int) := by omega
          obtain ⟨n0, hn0⟩ : ∃ n, q0.length = n := ⟨_, rfl⟩
          have HN0 := Lib.hid hn0
          have hn9 : n0 ≤ 32 := by omega
          clear hx hq0 hn0 hql hxl x0
          have HO0 := HO
          have HB0 := HB
          have HE0 := Lib.hid (show ([] : Bs) = [] from rfl)
          clear HO HB HE0
          have hc0 := HCX.out _ HB0.out
          have hbz0 := HB0.out.size
          obtain ⟨A0', c0', hv0, -, -⟩ := BOwn.rd (F := fun b => True) HO0.out (fun _ _ => trivial)
          subst hv0
          rw [HN0.out] at HO0 ⊢
          obtain ⟨m0, hm0⟩ : ∃ m, [UInt8.ofNat (x.toNat / 16777216)] = m := ⟨_, rfl⟩
          have HML0 := Lib.hid (show m0.length = 1 by rw [← hm0]; rfl)
          have HMB0 := Lib.hid (show ∀ z : Int, z = ((UInt8.ofNat (x.toNat / 16777216) : UInt8).toNat : Int) → [Value.int .u8 z] = m0.map Nu.vb from fun z hz => by rw [← hm0]; exact one_vb _ _ hz)
          rw [hm0] at HE
          clear hm0
          go_wp2_with (at_builtin; refine wpList_push rfl _ _ rfl wz.heap.size _ q0 m0 n0 1 rfl HO0.out HN0.out HML0.out rfl (by omega) hbz0 ?hz ?_)
          case hz => exact HMB0.out _ (by first | exact o_b x 16777216 (by decide) | (have := o_b x 16777216 (by decide); simpa using this))
          intro v' w4 hown1 hb1
          have HO1 := Lib.hid hown1
          have HB1 := Lib.hid (hb1 _ HB0.out)
          clear hown1 hb1 hc0 hbz0 HMB0 HO0
          obtain ⟨q1, hq1⟩ : ∃ q, q0 ++ m0 = q := ⟨_, rfl⟩
          have HN1 := Lib.hid (show q1.length = n0 + 1 by rw [← hq1, List.length_append, HN0.out, HML0.out])
          obtain ⟨n1, hn1⟩ : ∃ n, n0 + 1 = n := ⟨_, rfl⟩
          rw [hn1] at HN1
          rw [hq1] at HO1 HE
          have hn91 : n1 ≤ 33 := by omega
          clear hq1 hn1 HML0
          have hc1 := HCX.out _ HB1.out
          have hbz1 := HB1.out.size
          obtain ⟨A1', c1', hv1, -, -⟩ := BOwn.rd (F := fun b => True) HO1.out (fun _ _ => trivial)
          subst hv1
          rw [HN1.out] at HO1 ⊢
          obtain ⟨m1, hm1⟩ : ∃ m, [UInt8.ofNat (x.toNat / 65536)] = m := ⟨_, rfl⟩
          have HML1 := Lib.hid (show m1.length = 1 by rw [← hm1]; rfl)
          have HMB1 := Lib.hid (show ∀ z : Int, z = ((UInt8.ofNat (x.toNat / 65536) : UInt8).toNat : Int) → [Value.int .u8 z] = m1.map Nu.vb from fun z hz => by rw [← hm1]; exact one_vb _ _ hz)
          rw [hm1] at HE
          clear hm1
          go_wp2_with (at_builtin; refine wpList_push rfl _ _ rfl wz.heap.size _ q1 m1 n1 1 rfl HO1.out HN1.out HML1.out rfl (by omega) hbz1 ?hz ?_)
          case hz => exact HMB1.out _ (by first | exact o_b x 65536 (by decide) | (have := o_b x 65536 (by decide); simpa using this))
          intro v' w5 hown1 hb1
          have HO2 := Lib.hid hown1
          have HB2 := Lib.hid (hb1 _ HB1.out)
          clear hown1 hb1 hc1 hbz1 HMB1 HO1
          obtain ⟨q2, hq2⟩ : ∃ q, q1 ++ m1 = q := ⟨_, rfl⟩
          have HN2 := Lib.hid (show q2.length = n1 + 1 by rw [← hq2, List.length_append, HN1.out, HML1.out])
          obtain ⟨n2, hn2⟩ : ∃ n, n1 + 1 = n := ⟨_, rfl⟩
          rw [hn2] at HN2
          rw [hq2] at HO2 HE
          have hn92 : n2 ≤ 34 := by omega
          clear hq2 hn2 HML1
          have hc2 := HCX.out _ HB2.out
          have hbz2 := HB2.out.size
          obtain ⟨A2', c2', hv2, -, -⟩ := BOwn.rd (F := fun b => True) HO2.out (fun _ _ => trivial)
          subst hv2
          rw [HN2.out] at HO2 ⊢
          obtain ⟨m2, hm2⟩ : ∃ m, [UInt8.ofNat (x.toNat / 256)] = m := ⟨_, rfl⟩
          have HML2 := Lib.hid (show m2.length = 1 by rw [← hm2]; rfl)
          have HMB2 := Lib.hid (show ∀ z : Int, z = ((UInt8.ofNat (x.toNat / 256) : UInt8).toNat : Int) → [Value.int .u8 z] = m2.map Nu.vb from fun z hz => by rw [← hm2]; exact one_vb _ _ hz)
          rw [hm2] at HE
          clear hm2
          go_wp2_with (at_builtin; refine wpList_push rfl _ _ rfl wz.heap.size _ q2 m2 n2 1 rfl HO2.out HN2.out HML2.out rfl (by omega) hbz2 ?hz ?_)
          case hz => exact HMB2.out _ (by first | exact o_b x 256 (by decide) | (have := o_b x 256 (by decide); simpa using this))
          intro v' w6 hown1 hb1
          have HO3 := Lib.hid hown1
          have HB3 := Lib.hid (hb1 _ HB2.out)
          clear hown1 hb1 hc2 hbz2 HMB2 HO2
          obtain ⟨q3, hq3⟩ : ∃ q, q2 ++ m2 = q := ⟨_, rfl⟩
          have HN3 := Lib.hid (show q3.length = n2 + 1 by rw [← hq3, List.length_append, HN2.out, HML2.out])
          obtain ⟨n3, hn3⟩ : ∃ n, n2 + 1 = n := ⟨_, rfl⟩
          rw [hn3] at HN3
          rw [hq3] at HO3 HE
          have hn93 : n3 ≤ 35 := by omega
          clear hq3 hn3 HML2
          have hc3 := HCX.out _ HB3.out
          have hbz3 := HB3.out.size
          obtain ⟨A3', c3', hv3, -, -⟩ := BOwn.rd (F := fun b => True) HO3.out (fun _ _ => trivial)
          subst hv3
          rw [HN3.out] at HO3 ⊢
          obtain ⟨m3, hm3⟩ : ∃ m, [UInt8.ofNat x.toNat] = m := ⟨_, rfl⟩
          have HML3 := Lib.hid (show m3.length = 1 by rw [← hm3]; rfl)
          have HMB3 := Lib.hid (show ∀ z : Int, z = ((UInt8.ofNat x.toNat : UInt8).toNat : Int) → [Value.int .u8 z] = m3.map Nu.vb from fun z hz => by rw [← hm3]; exact one_vb _ _ hz)
          rw [hm3] at HE
          clear hm3
          go_wp2_with (at_builtin; refine wpList_push rfl _ _ rfl wz.heap.size _ q3 m3 n3 1 rfl HO3.out HN3.out HML3.out rfl (by omega) hbz3 ?hz ?_)
          case hz => exact HMB3.out _ (by first | exact o_b0 x | (have := o_b0 x; simpa using this))
          intro v' w7 hown1 hb1
          have HO4 := Lib.hid hown1
          have HB4 := Lib.hid (hb1 _ HB3.out)
          clear hown1 hb1 hc3 hbz3 HMB3 HO3
          obtain ⟨q4, hq4⟩ : ∃ q, q3 ++ m3 = q := ⟨_, rfl⟩
          have HN4 := Lib.hid (show q4.length = n3 + 1 by rw [← hq4, List.length_append, HN3.out, HML3.out])
          obtain ⟨n4, hn4⟩ : ∃ n, n3 + 1 = n := ⟨_, rfl⟩
          rw [hn4] at HN4
          rw [hq4] at HO4 HE
          have hn94 : n4 ≤ 36 := by omega
          clear hq4 hn4 HML3
          rw [← HE.out] at HO4
          go_wp2
          exact ⟨⟨t + 1, by omega, by go_num, HO4, HB4⟩, by simp [intOf]; omega⟩
        · have hte : t = 8 := by omega
          subst hte
          rw [outN_8, HFIN.out] at HO
          go_wp2_with fail
          go_ret
          exact ⟨_, rfl, BOwn.base HO.out HBW.out.size, keepB' HBW.out HB.out HBW.out.size⟩
end Go.Proofs.YthgjhfcafdepcaaGreatDoor.Sh

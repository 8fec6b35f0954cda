/-
  Tokens: the document's Sign; TokenSigns, walked.
-/
import Derived.Test.YthgjhfcafdepcaaGreatDoorTokR
import Derived.Test.YthgjhfcafdepcaaGreatDoorShaN
namespace Go.Proofs.YthgjhfcafdepcaaGreatDoor.Tk
open Go.RowKit Go.Proofs.YthgjhfcafdepcaaGreatDoor.B Go.Proofs.YthgjhfcafdepcaaGreatDoor.S10
open Go.Proofs.YthgjhfcafdepcaaGreatDoor.M
open Go.Proofs.YthgjhfcafdepcaaGreatDoor.C (QRow Turn)
open Go.Proofs.YthgjhfcafdepcaaGreatDoor.Sh (macF macF_len RdB)
open Go.Proofs.YthgjhfcafdepcaaGreatDoor.S01 (hexF unhexF)
set_option linter.unusedVariables false
set_option linter.unusedSimpArgs false

set_option maxRecDepth 100000 in
set_option maxHeartbeats 4000000 in
theorem refSign_calls {F : Nat → Prop} {A : Option Addr} {n cp : Nat} {l : Bs} (c : Cl) (hz : Szc c) (w : World) (hn : l.length = n) (hL : n ≤ 900000) (hp : RdB w F A l) :
    Calls Tryz.prog 13 #[.slice A n cp, clV c] w (ShowRet w (signF l c)) := by
  have HP := Lib.hid hp.lt
  have HN := Lib.hid hn
  have hlen := textF_len c hz.e0 hz.e1
  have HTX := Lib.hid (refText_calls c hz (w.alloc (.cells (clC c) 26)))
  have HB0 := Lib.hid ((Below.refl _ w).alloc (Nat.le_refl _) (.cells (clC c) 26))
  have HSG := Lib.hid (show signF l c = if (textF c).isEmpty = true then [] else textF c ++ 47 :: hexF (macF l (textF c)) from rfl)
  clear hz hp hn
  obtain ⟨t, htt⟩ : ∃ t, textF c = t := ⟨_, rfl⟩
  rw [htt] at HTX HSG hlen
  clear htt
  obtain ⟨tn, k, i, key, ex⟩ := c
  go_enter Tryz.func13, Tryz.ntmps13
  go_wp2_with fail
  refine HTX.out.mono ?_
  rintro e w1 ⟨rfl, hb1⟩
  have HB1 := Lib.hid (below_more HB0.out hb1)
  clear hb1
  cases hte : t.isEmpty with
  | true =>
    rw [hte] at HSG
    go_wp2
    go_ret
    exact ⟨by rw [HSG.out]; rfl, HB1.out⟩
  | false =>
    rw [hte] at HSG
    obtain ⟨c2, w2, hcv, hc2, hr2, hb2⟩ := conv_text w1 t
    have HR2 := Lib.hid hr2
    have HB2 := Lib.hid (below_more HB1.out hb2)
    clear hr2 hb2
    go_wp2_with fail
    refine (Sh.dmac_calls HN.out hL (HP.out.keep (F' := fun _ => True) fun a v ha hv => ⟨trivial, (HB2.out.cell ha).trans hv⟩) rfl (by omega) HR2.out).mono ?_
    rintro e w3 ⟨v, rfl, hown, hb3⟩
    obtain ⟨A8, c8, rfl, hc8, hr8⟩ := Sh.BOwn.rd (F := fun _ => True) hown (fun b hb => trivial)
    have HB3 := Lib.hid (below_more HB2.out hb3)
    have HR8 := Lib.hid (rd_bread hr8 rfl (by rw [macF_len]; omega))
    have hml := macF_len l t
    obtain ⟨m, hm⟩ : ∃ m, macF l t = m := ⟨_, rfl⟩
    rw [hm] at HR8 HSG hml ⊢
    rw [hml] at HR8 ⊢
    clear hown hb3 hr8 hm
    go_wp2_with fail
    refine (Nu.refHex_calls A8 32 c8 m _ HR8.out (by omega)).mono ?_
    rintro e w4 ⟨rfl, hb4⟩
    have HB4 := Lib.hid (below_more HB3.out hb4)
    clear hb4
    have hhl := S01.hexF_len m
    go_wp2
    go_ret
    exact ⟨by rw [HSG.out]; exact congrArg Ending.returned (congrArg Value.string (ba_three t [47] (hexF m))), HB4.out⟩
set_option maxRecDepth 100000 in
set_option maxHeartbeats 4000000 in
theorem signs_calls (c : Cl) (hz : Szc c) (l : Bs) (A : Option Addr) (n cp : Nat) (w : World) (hn : l.length = n) (hnc : n ≤ cp) (hp : RdB w (fun _ => True) A l) (ht : Nu.Tab w) (he : Nu.Errs w) :
    Calls Tryz.prog 3 #[.slice A n cp, clV c] w (BRet w true) := by
  have HT := Lib.hid ht
  have HE := Lib.hid he
  have HP := Lib.hid hp
  have HN := Lib.hid hn
  have HZ := Lib.hid hz
  clear ht he hp hn hz
  obtain ⟨w0, hw0⟩ : ∃ w0, w.alloc (.cells (clC c) 26) = w0 := ⟨_, rfl⟩
  have HB0 := Lib.hid (show Below w.heap.size w w0 by rw [← hw0]; exact (Below.refl _ w).alloc (Nat.le_refl _) _)
  have HC0 := Lib.hid (show w0.heap[w.heap.size]? = some (.cells (clC c) 26 (0, 0)) by rw [← hw0]; exact heap_alloc_new w _)
  have hl0 : w.heap.size < w0.heap.size := by rw [← hw0]; simp
  have HCC := Lib.hid (fun V (hb : Below w0.heap.size w0 V) => five_cells ((hb.block w.heap.size hl0).trans HC0.out))
  have HA := Lib.hid (awake_calls w0 (Nu.Tab.below HT.out HB0.out) (Nu.Errs.below HE.out HB0.out))
  have HC1 := Lib.hid (fun V (hb : Below w.heap.size w V) => Text_calls c HZ.out V (Nu.Tab.below HT.out hb))
  have HC2 := Lib.hid (fun V (hb : Below w.heap.size w V) => refText_calls c HZ.out V)
  have HC3 := Lib.hid (fun (hL : n ≤ 200) V (hb : Below w.heap.size w V) => Sign_calls (cp := cp) c HZ.out V (Nu.Tab.below HT.out hb) HN.out hnc (by omega) (HP.out.below hb (F' := fun _ => True) (fun _ _ _ => trivial)))
  have HC4 := Lib.hid (fun (hL : n ≤ 200) V (hb : Below w.heap.size w V) => refSign_calls (cp := cp) c HZ.out V HN.out (by omega) (HP.out.below hb (F' := fun _ => True) (fun _ _ _ => trivial)))
  obtain ⟨T, hTT⟩ : ∃ T, textF c = T := ⟨_, rfl⟩
  obtain ⟨G, hGG⟩ : ∃ G, signF l c = G := ⟨_, rfl⟩
  rw [hTT] at HC1 HC2
  rw [hGG] at HC3 HC4
  clear hTT hGG
  obtain ⟨tn, k, i, key, ex⟩ := c
  go_enter Tryz.func3, Tryz.ntmps3
  go_wp2_with fail
  refine HA.out.mono ?_
  rintro e w1 ⟨rfl, hb1⟩
  have HB1 := Lib.hid (below_more HB0.out hb1)
  have HBC := Lib.hid hb1
  clear hb1
  by_cases hlong : 200 < n
  · have hlong' : (200 : Int) < (n : Int) := by omega
    go_wp2
    go_ret
    exact ⟨rfl, HB1.out⟩
  · have hlong' : ¬ (200 : Int) < (n : Int) := by omega
    have HC3 := Lib.hid (HC3.out (by omega))
    have HC4 := Lib.hid (HC4.out (by omega))
    have HW0 : Hid (Below w.heap.size w w1.drew) := Lib.hid ⟨HB1.out.os, HB1.out.tape, HB1.out.output, HB1.out.size, HB1.out.block⟩
    obtain ⟨z0_0, z0_1, z0_2, z0_3, z0_4, -⟩ := HCC.out w1 HBC.out
    go_wp2_with fail
    go_region_held3 (fun W => W.cell? ⟨w.heap.size, 0, none⟩ = some (vs tn) ∧ W.cell? ⟨w.heap.size, 1, none⟩ = some (vs k) ∧ W.cell? ⟨w.heap.size, 2, none⟩ = some (vs i) ∧ W.cell? ⟨w.heap.size, 3, none⟩ = some (vs key) ∧ W.cell? ⟨w.heap.size, 4, none⟩ = some (.int .i64 ex)) (go_keep)
    (first
    | ((with_reducible refine (HC1.out _ HW0.out).mono ?_); rintro e y1 ⟨rfl, hb⟩
       have HW1 := Lib.hid (keepB HW0.out hb)
       have z1_0 := keepC hb z0_0
       have z1_1 := keepC hb z0_1
       have z1_2 := keepC hb z0_2
       have z1_3 := keepC hb z0_3
       have z1_4 := keepC hb z0_4
       clear hb)
    | ((with_reducible refine (HC2.out _ HW1.out).mono ?_); rintro e y2 ⟨rfl, hb⟩
       have HW2 := Lib.hid (keepB HW1.out hb)
       have z2_0 := keepC hb z1_0
       have z2_1 := keepC hb z1_1
       have z2_2 := keepC hb z1_2
       have z2_3 := keepC hb z1_3
       have z2_4 := keepC hb z1_4
       clear hb)
    | ((with_reducible refine (HC3.out _ HW2.out).mono ?_); rintro e y3 ⟨rfl, hb⟩
       have HW3 := Lib.hid (keepB HW2.out hb)
       have z3_0 := keepC hb z2_0
       have z3_1 := keepC hb z2_1
       have z3_2 := keepC hb z2_2
       have z3_3 := keepC hb z2_3
       have z3_4 := keepC hb z2_4
       clear hb)
    | ((with_reducible refine (HC4.out _ HW3.out).mono ?_); rintro e y4 ⟨rfl, hb⟩
       have HW4 := Lib.hid (keepB HW3.out hb)
       have z4_0 := keepC hb z3_0
       have z4_1 := keepC hb z3_1
       have z4_2 := keepC hb z3_2
       have z4_3 := keepC hb z3_3
       have z4_4 := keepC hb z3_4
       clear hb))
    all_goals
      go_wp2
      go_ret
      exact ⟨rfl, HW4.out⟩
end Go.Proofs.YthgjhfcafdepcaaGreatDoor.Tk

/-
  May; one byte as hexadecimal text.
-/
import Derived.Test.YtminegmjklehnaaGreatDoorJsonBl
import Derived.Test.YtminegmjklehnaaGreatDoorJsonP
import Derived.Deep.RegionLaw
namespace Go.Proofs.YtminegmjklehnaaGreatDoor.J
open Go.RowKit Go.Proofs.YtminegmjklehnaaGreatDoor.B
open Go.Proofs.YtminegmjklehnaaGreatDoor.M hiding Bs
open Go.Proofs.YtminegmjklehnaaGreatDoor.C (QRow Turn)
set_option linter.unusedVariables false
set_option linter.unusedSimpArgs false

set_option maxRecDepth 100000 in
set_option maxHeartbeats 1000000 in
theorem May_calls {j : Js} {w : World} {F : Nat → Prop} {k n : Int} {t : Bs} {A : Option Addr} {an ac : Nat} {B : Option Addr} {bn bc : Nat} (h : JsV w F j (jAgg k n t A an ac B bn bc)) (hf : FitJ j) (hT : TabW w) :
    Calls Tryz.prog 11 #[jAgg k n t A an ac B bn bc] w (BRet w (mayJ j 12)) := by
  have hb1 : Below w.heap.size w (w.alloc (.cells (jcs k n t A an ac B bn bc) 27)) := (Below.refl _ w).alloc (Nat.le_refl _) _
  have HM := Lib.hid (fun W (hb : Below w.heap.size w W) => show Calls Tryz.prog 34 #[jAgg k n t A an ac B bn bc, .int .i64 0] W (BRet W (mayJ j 12)) from may_calls 12 (Nat.le_refl _) j W F k n t A an ac B bn bc (h.below hb) hf (hT.below hb))
  have HB1 := Lib.hid hb1
  generalize mayJ j 12 = m at *
  clear h hf hT hb1
  go_enter Tryz.func11, Tryz.ntmps11
  go_wp2_with fail
  refine (HM.out _ HB1.out).mono ?_
  rintro e w1 ⟨rfl, hb⟩
  have HB2 := Lib.hid (keepB HB1.out hb)
  clear hb
  go_wp2
  go_ret
  exact ⟨rfl, HB2.out⟩
theorem infoB : (Tryz.prog.info? 5).map (fun i => (i.zero, i.size, i.bytes)) = some (some (.int .u8 0), 1, 1) := by kernel_rfl
abbrev hexTb : ByteArray := ⟨#[48, 49, 50, 51, 52, 53, 54, 55, 56, 57, 97, 98, 99, 100, 101, 102]⟩
set_option maxRecDepth 100000 in
theorem idxh (z : Int) (i : Nat) (hz : z = (i : Int)) (hi : i < 16) (w : World) : (Instr.index 9 (.string ⟨#[48, 49, 50, 51, 52, 53, 54, 55, 56, 57, 97, 98, 99, 100, 101, 102]⟩) (.int .u8 z)).run Tryz.prog w = .ok (.int .u8 ((hexC i).toNat : Int)) w := by
  subst hz
  have hs : hexTb.size = 16 := rfl
  rw [run_index_string w 9 hexTb .u8 _ rfl, dif_pos ⟨by omega, by rw [hs]; omega⟩]
  have e : ((i : Int)).toNat = i := by omega
  simp only [e]
  have h2 : ∀ (i : Nat) (hi : i < hexTb.size), hexTb[i] = hexC i := fun i hi => match i, hi with
    | 0, _ => rfl
    | 1, _ => rfl
    | 2, _ => rfl
    | 3, _ => rfl
    | 4, _ => rfl
    | 5, _ => rfl
    | 6, _ => rfl
    | 7, _ => rfl
    | 8, _ => rfl
    | 9, _ => rfl
    | 10, _ => rfl
    | 11, _ => rfl
    | 12, _ => rfl
    | 13, _ => rfl
    | 14, _ => rfl
    | 15, _ => rfl
    | n + 16, h => by rw [hs] at h; omega
  rw [h2]
theorem and15b (z : Int) (h0 : 0 ≤ z) (h1 : z ≤ 255) : bits .and .u8 z 15 = z % 16 := by
  obtain ⟨a, rfl⟩ := Int.eq_ofNat_of_zero_le h0
  have h : ∀ p : Fin 256, bits .and .u8 (p.val : Int) 15 = (p.val : Int) % 16 := by decide +kernel
  exact h ⟨a, by omega⟩
theorem two_new (w : World) (x y : Value) (t : TypeId) : ∀ j u, [x, y][j]? = some u → (w.alloc (.cells #[x, y] t)).cell? ((⟨w.heap.size, 0, none⟩ : Addr).add j) = some u := jc_new w [x, y] t
theorem two_of_row {w : World} {v : Value} {a b : UInt8} (h : QRow w 5 1 v 2 [.int .u8 (a.toNat : Int), .int .u8 (b.toNat : Int)]) : BsV w v [a, b] := by
  rcases h.2 with ⟨-, h0⟩ | ⟨g, off, cap, cur, rfl, h1, h2, h3, h4, h5⟩
  · omega
  · refine .inr ⟨g, off, cap, rfl, fun i hi => ?_⟩
    have hlen : i < 2 := hi
    have h6 : ((cur.toList.drop off).take (2 * 1))[i]? = some (.int .u8 (([a, b][i]).toNat : Int)) := by
      rw [h5]
      match i, hlen with
      | 0, _ => rfl
      | 1, _ => rfl
    rw [List.getElem?_take, if_pos (by omega), List.getElem?_drop] at h6
    rw [cell_of_row w g _ cur _ (0, 0) h1]
    simpa using h6
set_option maxRecDepth 100000 in
set_option maxHeartbeats 4000000 in
theorem hex1_calls (c : UInt8) {w : World} {g cap : Nat} (hc : w.cell? ⟨g, 0, none⟩ = some (.int .u8 (c.toNat : Int))) :
    Calls Tryz.prog 87 #[.slice (some ⟨g, 0, none⟩) 1 cap] w (ShowRet w [hexC (c.toNat / 16), hexC (c.toNat % 16)]) := by
  obtain ⟨i0, hi, hz0, hz1, hz2⟩ := info_parts infoB
  obtain ⟨w1, hmk, hown, hg⟩ := run_make_own (P := Tryz.prog) w w.heap.size 22 5 i0 (.int .u8 0) 1 Tryz.underlying22 hi hz0 hz1 .i64 .i64 2 (by rw [hz2]; omega) (by unfold maxLen; omega) (Nat.le_refl _)
  have e2 : ((2 : Nat) : Int) = 2 := rfl
  rw [e2] at hmk
  have HI := Lib.hid hi; clear hi
  have HZ0 := Lib.hid hz0; clear hz0
  have HZ1 := Lib.hid hz1; clear hz1
  have HZ2 := Lib.hid hz2; clear hz2
  have hb1 : Below w.heap.size w w1 := (Below.refl _ _).grown hg (Nat.le_refl _) (fun b hb => by cases hb)
  have HQ := Lib.hid (QRow.of_owns hown)
  have hg1 := World.block_lt_of_cell? w _ hc
  have hc1 := keepC hb1 hc
  have hlt := c.toNat_lt
  have HB := Lib.hid hb1
  have i1 := idxh ((c.toNat : Int) / 16) (c.toNat / 16) (by omega) (by omega)
  have i2 := idxh ((c.toNat : Int) % 16) (c.toNat % 16) (by omega) (by omega)
  have i3 := and15b (c.toNat : Int) (by omega) (by omega)
  clear hown hg hb1
  go_enter Tryz.func87, Tryz.ntmps87
  go_wp2_with fail
  go_loopw [3, 12] (fun v3 v12 wr => ∃ k : Nat, k ≤ 1 ∧ v12 = .int .i64 k ∧ Hid (QRow wr 5 1 v3 (2 * k) (if k = 0 then [] else [.int .u8 ((hexC (c.toNat / 16)).toNat : Int), .int .u8 ((hexC (c.toNat % 16)).toNat : Int)])) ∧ Hid (∀ g, v3.ownBlock = some g → w.heap.size ≤ g) ∧ Hid (Below w.heap.size w wr)) (fun _ v12 _ => 1 - (intOf v12).toNat)
  case atStart => exact ⟨0, Nat.zero_le _, rfl, HQ, Lib.hid (fun g hg => by cases hg; exact Nat.le_refl _), HB⟩
  case round =>
    obtain ⟨k, hk, rfl, HQR, HOB, HBR⟩ := hrel
    have hcr := keepC HBR.out hc
    by_cases hk0 : k = 0
    · subst hk0
      have hq : QRow wr 5 1 u3 0 [] := HQR.out
      obtain ⟨A3, c3, hv3⟩ := QRow.form hq
      subst hv3
      have HQA := Lib.hid (show QRow (wr.alloc (.cells #[.int .u8 ((hexC (c.toNat / 16)).toNat : Int), .int .u8 ((hexC (c.toNat % 16)).toNat : Int)] 5)).drew 5 1 (.slice A3 0 c3) 0 [] from hq.kept (fun g hg => alloc_old _ (hq.block_lt hg)))
      have HTW := Lib.hid (show ∀ j u, [Value.int .u8 ((hexC (c.toNat / 16)).toNat : Int), .int .u8 ((hexC (c.toNat % 16)).toNat : Int)][j]? = some u → (wr.alloc (.cells #[.int .u8 ((hexC (c.toNat / 16)).toNat : Int), .int .u8 ((hexC (c.toNat % 16)).toNat : Int)] 5)).drew.cell? ((⟨wr.heap.size, 0, none⟩ : Addr).add j) = some u from two_new wr _ _ 5)
      have HS2 : Hid (∀ u ∈ [Value.int .u8 ((hexC (c.toNat / 16)).toNat : Int), .int .u8 ((hexC (c.toNat % 16)).toNat : Int)], u.oneCell' = true) := Lib.hid (fun u hu => by
        simp at hu
        rcases hu with rfl | rfl <;> rfl)
      have HB2 := Lib.hid (show Below w.heap.size w (wr.alloc (.cells #[.int .u8 ((hexC (c.toNat / 16)).toNat : Int), .int .u8 ((hexC (c.toNat % 16)).toNat : Int)] 5)).drew from below_drewN (HBR.out.alloc HBR.out.size _) 1)
      clear hq hmk
      go_wp2_with fail
      go_region_law ((refine step_append_q rfl _ _ 22 rfl 5 i0 (.int .u8 0) 1 1 Tryz.underlying22 HI.out HZ0.out HZ1.out HZ2.out rfl (by decide) (.slice A3 0 c3) 0 [] rfl HQA.out ⟨wr.heap.size, 0, none⟩ 2 2 [.int .u8 ((hexC (c.toNat / 16)).toNat : Int), .int .u8 ((hexC (c.toNat % 16)).toNat : Int)] rfl rfl HTW.out HS2.out (by unfold maxLen; omega) (by omega) ?_
                      intro v' w3 hq3 hg3 hb3))
      all_goals
        have HQ3 := Lib.hid hq3
        have HB3 := Lib.hid (HB2.out.grown hg3 HB2.out.size (fun b hb => HOB.out b hb))
        have HO3 := Lib.hid (fun g hg => (hb3 g hg).elim (HOB.out g) (fun h => Nat.le_trans HB2.out.size h))
        clear hq3 hg3 hb3
        go_wp2
        exact ⟨⟨1, by omega, by go_num, HQ3, HO3, HB3⟩, by simp [intOf]⟩
    · have hk1 : k = 1 := by omega
      subst hk1
      have hcv := conv_bytes (two_of_row HQR.out)
      go_wp2
      go_ret
      exact ⟨rfl, HBR.out⟩
end Go.Proofs.YtminegmjklehnaaGreatDoor.J

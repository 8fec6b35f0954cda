/-
  Numbers as decimal text: the document's Show, walked, below 0.
-/
import Derived.Test.YteaapekkoahilaaDoorNumT
namespace Go.Proofs.YteaapekkoahilaaDoor.Nu
open Go.RowKit Go.Proofs.YteaapekkoahilaaDoor.B Go.Proofs.YteaapekkoahilaaDoor.S01
set_option linter.unusedVariables false
set_option linter.unusedSimpArgs false

set_option maxRecDepth 100000 in
set_option maxHeartbeats 4000000 in
theorem refShow_neg (N : Nat) (h1 : 1 ≤ N) (hN : N ≤ 9223372036854775808) (w : World) :
    Calls Tryd.prog 29 #[.int .i64 (-(N : Int))] w fun e w' => e = .returned (.string ⟨(Lib.itoa (-(N : Int))).toArray⟩) ∧ Below w.heap.size w w' := by
  obtain ⟨i0, hi, hz0, hz1, hz2⟩ := info_parts info_u8
  have HI := Lib.hid hi; clear hi
  have HZ0 := Lib.hid hz0; clear hz0
  have HZ1 := Lib.hid hz1; clear hz1
  have HZ2 := Lib.hid hz2; clear hz2
  have n0 : ((-(N : Int)) == 0) = false := beq_eq_false_iff_ne.2 (by omega)
  have n1 : (-(N : Int)) < 0 := by omega
  have hN' := rd_len (u := N) (by omega)
  go_enter Tryd.func29, Tryd.ntmps29
  go_wp2
  go_loopw [0, 4] (fun v0 v4 wr => ∃ (u : Nat) (pre : List UInt8), u ≤ N ∧ v0 = .int .i64 (-(u : Int)) ∧ pre ++ rd u = rd N ∧ BOwn wr w.heap.size v4 pre ∧ Below w.heap.size w wr) (fun v0 _ _ => (-(intOf v0)).toNat)
  case atStart => exact ⟨N, [], Nat.le_refl _, rfl, rfl, BOwn.nil _ _, Below.refl _ _⟩
  case round =>
    obtain ⟨u, pre, hu, rfl, hpre, hown, hbel⟩ := hrel
    by_cases hz : u = 0
    · subst hz
      rw [rd_zero, List.append_nil] at hpre
      subst hpre
      have z0 : ((0 : Int) != 0) = false := rfl
      have hL0 := hN'
      have HO := Lib.hid (BOwn.row hown rfl)
      have hbz := hbel.size
      have hr := rd_digits N N (Nat.le_refl _) h1
      have HRD := Lib.hid hr
      clear hown hr
      generalize rd N = pre at *
      go_wp2_with (at_builtin; go_loud (refine wpList_append_own _ rfl _ _ 22 rfl w.heap.size 5 i0 (.int .u8 0) 1 1 Tryd.underlying22 HI.out HZ0.out HZ1.out HZ2.out rfl (by decide) _ _ _ rfl (HO.out.alloc _) ⟨wr.heap.size, 0, none⟩ 1 1 [.int .u8 45] rfl rfl (cell_one_new _ _ _) ?c2 ?c3 ?c4 ?c5 ?_))
      case c2 => intro u hu; simp at hu; subst hu; rfl
      case c3 => unfold maxLen; omega
      case c4 => omega
      case c5 => simp; omega
      intro v' w1 hown1 hgrow1 _
      have hown := BOwn.snoc (c := 45) hown1 rfl rfl
      have hbel' : Below w.heap.size w w1 := ((hbel.alloc hbel.size _).grown hgrow1 (by simp; omega) (fun b hb => own_base' HO.out b hb))
      have HIT := Lib.hid (show (pre ++ [45]).reverse = Lib.itoa (-(N : Int)) by rw [Lib.itoa_neg N h1, List.reverse_append, HRD.out]; rfl)
      have hL1 : 1 ≤ (pre ++ [45]).length := by simp
      have hL2 : (pre ++ [45]).length ≤ 22 := by simp; omega
      clear hown1 hgrow1 hbel HO HRD hL0 hN'
      have hbel := hbel'
      clear hbel'
      generalize pre ++ [45] = L at *
      obtain ⟨g, cap, hv⟩ := own_form hown (by omega)
      subst hv
      have hm0 : 0 ≤ (L.length : Int) := by omega
      go_wp2
      go_loopw [6] (fun v6 wq => ∃ i : Nat, i ≤ L.length / 2 ∧ v6 = .int .i64 (i : Int) ∧ BOwn wq w.heap.size (.slice (some ⟨g, 0, none⟩) L.length cap) (swp L i) ∧ Below w.heap.size w wq) (fun v6 _ => L.length / 2 - (intOf v6).toNat)
      case atStart => exact ⟨0, Nat.zero_le _, rfl, by rw [swp_zero]; exact hown, hbel⟩
      case round =>
        clear hown hbel
        obtain ⟨i, hi, rfl, hown, hbel⟩ := hrel
        by_cases hlt : i < L.length / 2
        · have hi0 : (i : Int) < (L.length : Int) / 2 := by omega
          obtain ⟨j, hj⟩ : ∃ j, L.length - 1 - i = j := ⟨_, rfl⟩
          have ej : (L.length : Int) - 1 - (i : Int) = (j : Int) := by omega
          have j0 : (0 : Int) ≤ (j : Int) := by omega
          have j1 : (j : Int) < (L.length : Int) := by omega
          have i0' : (0 : Int) ≤ (i : Int) := by omega
          have i1' : (i : Int) < (L.length : Int) := by omega
          have hlen := swp_len L i
          have ei : (swp L i).getD i 0 = L.getD i 0 := by
            rw [List.getD_eq_getElem?_getD, swp_get L i i (by omega), if_neg (by omega)]; rfl
          have ejj : (swp L i).getD j 0 = L.getD j 0 := by
            rw [List.getD_eq_getElem?_getD, swp_get L i j (by omega), if_neg (by omega)]; rfl
          obtain ⟨b1, _, f1, x1, bg⟩ := own_set hown hlen i (by omega) (L.getD j 0)
          obtain ⟨_, _, f2, x2, _⟩ := own_set hown hlen j (by omega) (L.getD i 0)
          obtain ⟨b2, _, _, _, _⟩ := own_set b1 (by rw [List.length_set, hlen]) j (by omega) (L.getD i 0)
          have hst := swp_step L i hlt
          rw [hj] at hst
          rw [hst] at b2
          have x1' : wr.cell? ⟨g, i, none⟩ = some (vb (L.getD i 0)) := by rw [x1]; unfold by' vb; rw [ei]
          have x2' : wr.cell? ⟨g, j, none⟩ = some (vb (L.getD j 0)) := by rw [x2]; unfold by' vb; rw [ejj]
          have x3 : (wr.setCell ⟨g, i, none⟩ (vb (L.getD j 0))).cell? ⟨g, j, none⟩ = some (vb (L.getD j 0)) := by
            rw [World.cell?_setCell_other _ _ _ _ (fun e => by injection e; omega)]; exact x2'
          have hb2 : Below w.heap.size w ((wr.setCell ⟨g, i, none⟩ (vb (L.getD j 0))).setCell ⟨g, j, none⟩ (vb (L.getD i 0))) := (hbel.setCell (p := ⟨g, i, none⟩) bg _).setCell (p := ⟨g, j, none⟩) bg _
          have hrel : ∃ k : Nat, k ≤ L.length / 2 ∧ Value.int .i64 ((i : Int) + 1) = .int .i64 (k : Int) ∧ BOwn ((wr.setCell ⟨g, i, none⟩ (vb (L.getD j 0))).setCell ⟨g, j, none⟩ (vb (L.getD i 0))) w.heap.size (.slice (some ⟨g, 0, none⟩) L.length cap) (swp L k) ∧ Below w.heap.size w ((wr.setCell ⟨g, i, none⟩ (vb (L.getD j 0))).setCell ⟨g, j, none⟩ (vb (L.getD i 0))) :=
            ⟨i + 1, by omega, by go_num, b2, hb2⟩
          have HREL := Lib.hid hrel
          clear hrel b1 b2 x1 x2 hb2 hst hown hbel hlen ei ejj bg
          simp only [vb] at *
          generalize ((L.getD i 0).toNat : Int) = vi at *
          generalize ((L.getD j 0).toNat : Int) = vj at *
          go_wp2
          exact ⟨HREL.out, by simp [intOf]; omega⟩
        · have hi1 : ¬ (i : Int) < (L.length : Int) / 2 := by omega
          have e : i = L.length / 2 := by omega
          rw [e, swp_end] at hown
          have hc := own_conv hown
          rw [HIT.out] at hc
          clear hown e
          go_wp2
          go_ret
          exact ⟨rfl, hbel⟩
    · have z1 : ((-(u : Int)) != 0) = true := by rw [bne_iff_ne]; omega
      have hd := vb_digit (d := u % 10) (by omega)
      have hd2 : ((UInt8.ofNat (48 + u % 10)).toNat : Int) = 48 + (u : Int) % 10 := by omega
      have HD := Lib.hid hd2
      have hl : pre.length + 1 ≤ 21 := by
        have := congrArg List.length hpre
        rw [rd_pos hz] at this
        simp at this
        omega
      have HO := Lib.hid (BOwn.row hown rfl)
      have HP := Lib.hid hpre
      have hbz := hbel.size
      clear hown hpre hd hd2
      have q0 : 0 ≤ (u : Int) % 10 := by omega
      have q1 : (u : Int) % 10 < 10 := by omega
      by_cases hm : (u : Int) % 10 = 0
      · have q2 : decide (0 < (u : Int) % 10) = false := by simp; omega
        have q3 : decide ((u : Int) % 10 > 0) = false := by simp; omega
        go_wp2_with (at_builtin; go_loud (refine wpList_append_own _ rfl _ _ 22 rfl w.heap.size 5 i0 (.int .u8 0) 1 1 Tryd.underlying22 HI.out HZ0.out HZ1.out HZ2.out rfl (by decide) _ _ _ rfl (HO.out.alloc _) ⟨wr.heap.size, 0, none⟩ 1 1 [.int .u8 (48)] rfl rfl (cell_one_new _ _ _) ?c2 ?c3 ?c4 ?c5 ?_))
        case c2 => intro u hu; simp at hu; subst hu; rfl
        case c3 => unfold maxLen; omega
        case c4 => omega
        case c5 => simp; omega
        intro v' w1 hown1 hgrow1 _
        have hown2 := Lib.hid (BOwn.snoc (c := UInt8.ofNat (48 + u % 10)) hown1 rfl (by have := HD.out; omega))
        have hb1 : Below w.heap.size w w1 := ((hbel.alloc hbel.size _).grown hgrow1 (by simp; omega) (fun b hb => own_base' HO.out b hb))
        clear hown1 hgrow1
        go_wp2
        exact ⟨⟨u / 10, _, by omega, by congr 1, by rw [List.append_assoc, ← HP.out, rd_pos hz]; rfl, hown2.out, hb1⟩, by simp [intOf]; omega⟩
      · have q2 : 0 < (u : Int) % 10 := by omega
        go_wp2_with (at_builtin; go_loud (refine wpList_append_own _ rfl _ _ 22 rfl w.heap.size 5 i0 (.int .u8 0) 1 1 Tryd.underlying22 HI.out HZ0.out HZ1.out HZ2.out rfl (by decide) _ _ _ rfl (HO.out.alloc _) ⟨wr.heap.size, 0, none⟩ 1 1 [.int .u8 (48 + (u : Int) % 10)] rfl rfl (cell_one_new _ _ _) ?c2 ?c3 ?c4 ?c5 ?_))
        case c2 => intro u hu; simp at hu; subst hu; rfl
        case c3 => unfold maxLen; omega
        case c4 => omega
        case c5 => simp; omega
        intro v' w1 hown1 hgrow1 _
        have hown2 := Lib.hid (BOwn.snoc (c := UInt8.ofNat (48 + u % 10)) hown1 rfl (by have := HD.out; omega))
        have hb1 : Below w.heap.size w w1 := ((hbel.alloc hbel.size _).grown hgrow1 (by simp; omega) (fun b hb => own_base' HO.out b hb))
        clear hown1 hgrow1
        go_wp2
        exact ⟨⟨u / 10, _, by omega, by congr 1, by rw [List.append_assoc, ← HP.out, rd_pos hz]; rfl, hown2.out, hb1⟩, by simp [intOf]; omega⟩
end Go.Proofs.YteaapekkoahilaaDoor.Nu

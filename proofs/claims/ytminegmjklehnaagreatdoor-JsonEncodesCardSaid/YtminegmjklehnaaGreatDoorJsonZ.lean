/-
  The laws' helpers: refused.
-/
import Derived.Test.YtminegmjklehnaaGreatDoorJsonY
namespace Go.Proofs.YtminegmjklehnaaGreatDoor.J
open Go.RowKit Go.Proofs.YtminegmjklehnaaGreatDoor.B
open Go.Proofs.YtminegmjklehnaaGreatDoor.M hiding Bs
open Go.Proofs.YtminegmjklehnaaGreatDoor.C (QRow Turn)
set_option linter.unusedVariables false
set_option linter.unusedSimpArgs false

def errP (b : Bs) : Int := match decodeP b with
  | .error d => d
  | .ok _ => 0
theorem TabW.tabs {w : World} (h : TabW w) : Tabs w.heap.size w := by
  obtain ⟨h1, h2⟩ := h
  exact ⟨⟨h1, h2⟩, World.block_lt_of_cell? w _ (h1 0 (by decide)), World.block_lt_of_cell? w _ (h2 0 (by decide)).1⟩
set_option maxRecDepth 100000 in
set_option maxHeartbeats 2000000 in
theorem refused_calls (b : Bs) (w : World) (hl : b.length ≤ 1000000000) (hT : TabW w) : Calls Tryz.prog 25 #[vs b] w fun e w' => e = .returned (.int .i64 (errP b)) ∧ Below w.heap.size w w' := by
  have hcv := Lib.run_convert_string_bytes (P := Tryz.prog) w 9 22 5 ⟨b.toArray⟩ Tryz.underlying9 Tryz.underlying22 Tryz.underlying5
  rw [sz] at hcv
  have hb := bw_below w 5 ⟨b.toArray⟩
  have HD := Lib.hid (Decode_calls (bw_bytes w 5 b (grownCap w b.length 0 5)) hl (TabW.tabs (hT.below hb)))
  have HB := Lib.hid hb
  generalize Lib.bytesWorld w 5 ⟨b.toArray⟩ = W at *
  clear hb hT hl
  go_enter Tryz.func25, Tryz.ntmps25
  go_wp2_with fail
  refine HD.out.mono ?_
  intro e w1 h1
  obtain ⟨hb1, hM⟩ := h1
  have HB1 := Lib.hid (keepB HB.out hb1)
  have HE := Lib.hid (show errP b = match decodeP b with
    | .error d => d
    | .ok _ => 0 from rfl)
  clear hb1
  cases hd : decodeP b with
  | error d =>
    rw [hd] at hM HE
    have hM : e = .returned (.tuple #[jAgg 0 0 [] none 0 0 none 0 0, .int .i64 d]) := hM
    subst hM
    have HB2 := Lib.hid (keepB HB1.out ((Below.refl _ w1).alloc (Nat.le_refl _) (.cells (jcs 0 0 [] none 0 0 none 0 0) 27)))
    clear hd
    go_wp2
    go_ret
    exact ⟨by rw [HE.out]; rfl, HB2.out⟩
  | ok j =>
    rw [hd] at hM HE
    obtain ⟨v, rfl, hv⟩ := hM
    obtain ⟨k, n, t, A, an, ac, B, bn, bc, rfl⟩ := hv.form
    have HB2 := Lib.hid (keepB HB1.out ((Below.refl _ w1).alloc (Nat.le_refl _) (.cells (jcs k n t A an ac B bn bc) 27)))
    clear hd hv
    go_wp2
    go_ret
    exact ⟨by rw [HE.out]; rfl, HB2.out⟩
end Go.Proofs.YtminegmjklehnaaGreatDoor.J

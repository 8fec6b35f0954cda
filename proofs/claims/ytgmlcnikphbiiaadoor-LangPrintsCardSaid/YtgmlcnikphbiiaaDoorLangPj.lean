/-
  A relation as a line.
-/
import Derived.Test.YtgmlcnikphbiiaaDoorLangPi
import Derived.Test.YtgmlcnikphbiiaaDoorLangPf
namespace Go.Proofs.YtgmlcnikphbiiaaDoor.L
open Go.RowKit Go.Proofs.YtgmlcnikphbiiaaDoor.B Go.Proofs.YtgmlcnikphbiiaaDoor.S10 Go.Proofs.YtgmlcnikphbiiaaDoor.Nm
open Go.Proofs.YtgmlcnikphbiiaaDoor.C (QRow Turn wpList_append_q)
set_option linter.unusedVariables false
set_option linter.unusedSimpArgs false

set_option maxRecDepth 100000 in
set_option maxHeartbeats 4000000 in
theorem line_def (F : Nat → Prop) (x : Rl) (A : Option Addr) (c : Nat) (k : Int) (a b : Bs) (B : Option Addr) (m d : Nat) (w : World) (hm : mayR x = true) (hr : x.refs = []) (h2 : ExV w F x.ex (exAgg k a b B m d)) :
    Calls Tryd.prog 33 #[rlAgg x.name A 0 c k a b B m d] w (ShowRet w (lineT x)) := by
  have hB : Below w.heap.size w (w.alloc (.cells (rlCells x.name A 0 c k a b B m d) 48)) := (Below.refl _ w).alloc (Nat.le_refl _) _
  unfold mayR at hm
  rw [hr, Bool.and_eq_true] at hm
  have hnl := (nm_len hm.1).2
  have hme : mayE x.ex 12 = true := hm.2
  have hsl := showE_len 12 x.ex hme
  have HS := Lib.hid (fun v w h => show_calls F 12 x.ex v w h (by omega) hme)
  have H2 : Hid (ExV (w.alloc (.cells (rlCells x.name A 0 c k a b B m d) 48)).drew F x.ex (exAgg k a b B m d)) := Lib.hid (h2.alloc (.cells (rlCells x.name A 0 c k a b B m d) 48)).drew
  have HL := Lib.hid (show lineT x = defineB ++ x.name ++ [58, 32] ++ showE x.ex ++ [10] by unfold lineT; rw [hr]; rfl)
  rw [HL.out]
  have HB := Lib.hid (below_drewN hB 1)
  have g1 := heap_alloc_new w (.cells (rlCells x.name A 0 c k a b B m d) 48)
  have HK : Hid (∀ w1, Below (w.alloc (.cells (rlCells x.name A 0 c k a b B m d) 48)).drew.heap.size (w.alloc (.cells (rlCells x.name A 0 c k a b B m d) 48)).drew w1 → w1.heap[w.heap.size]? = some (.cells (rlCells x.name A 0 c k a b B m d) 48 (0, 0))) := Lib.hid (fun w1 hb => (hb.block w.heap.size (by show _ < (w.alloc _).heap.size; simp)).trans g1)
  generalize showE x.ex = se at *
  generalize x.name = nx at *
  have q1 : ¬ 9223372036854775807 < 9 + nx.length := by omega
  have q2 : ¬ 9223372036854775807 < 9 + nx.length + 2 := by omega
  have q3 : ¬ 9223372036854775807 < 9 + nx.length + 2 + se.length := by omega
  have q4 : ¬ 9223372036854775807 < 9 + nx.length + 2 + se.length + 1 := by omega
  have hsz := sz nx
  have hsz2 := sz se
  clear hm hr h2 hB hme HL g1 hsl
  go_enter Tryd.func33, Tryd.ntmps33
  go_wp2_with fail
  go_region_held3 (fun W => W.cell? ⟨w.heap.size, 0, none⟩ = some (vs nx) ∧ W.cell? ⟨w.heap.size, 1, none⟩ = some (.slice A 0 c) ∧ W.cell? ⟨w.heap.size, 2, none⟩ = some (.int .i64 k) ∧ W.cell? ⟨w.heap.size, 3, none⟩ = some (vs a) ∧ W.cell? ⟨w.heap.size, 4, none⟩ = some (vs b) ∧ W.cell? ⟨w.heap.size, 5, none⟩ = some (.slice B m d)) (go_keep)
    (first
    | ((with_reducible refine (HS.out _ _ H2.out).mono ?_); rintro e w1 ⟨rfl, hb⟩
       obtain ⟨t0, t1, t2, t3, t4, t5, -⟩ := six_of (HK.out w1 hb)
       have HB1 := Lib.hid (keepB HB.out hb)
       clear hb))
  all_goals
    go_wp2
    go_ret
    exact ⟨rfl, HB1.out⟩
end Go.Proofs.YtgmlcnikphbiiaaDoor.L

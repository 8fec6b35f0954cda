/-
  SHA-256: a word of four bytes; the constants; the start.
-/
import Derived.Test.YthgjhfcafdepcaaGreatDoorShaA
import Derived.Great.Walk
import Derived.Great.BuildSlice
import Derived.Deep.WholeRow
import Derived.Deep.MidRow
namespace Go.Proofs.YthgjhfcafdepcaaGreatDoor.Sh
open Go.RowKit Go.Proofs.YthgjhfcafdepcaaGreatDoor.B
open Go.Proofs.YthgjhfcafdepcaaGreatDoor.M hiding Bs
open Go.Proofs.YthgjhfcafdepcaaGreatDoor.C (QRow Turn)
set_option linter.unusedVariables false
set_option linter.unusedSimpArgs false

def wK (l : Bs) : Nat → Nat
  | 0 => 0
  | k + 1 => wK l k * 256 + (l.getD k 0).toNat
theorem wK_lt (l : Bs) : ∀ k, wK l k < 256 ^ k
  | 0 => by simp [wK]
  | k + 1 => by
    have := wK_lt l k
    have h2 := (l.getD k 0).toNat_lt
    rw [wK, Nat.pow_succ]
    omega
set_option maxRecDepth 100000 in
theorem word_wK (b : Bs) (t : Nat) : wordAt b t = UInt32.ofNat (wK (b.drop (4 * t)) 4) := by
  unfold wordAt
  have e : ∀ i, (b.drop (4 * t)).getD i 0 = b.getD (4 * t + i) 0 := fun i => by
    rw [List.getD_eq_getElem?_getD, List.getD_eq_getElem?_getD, List.getElem?_drop]
  have h : wK (b.drop (4 * t)) 4 = (((0 * 256 + (b.getD (4 * t + 0) 0).toNat) * 256 + (b.getD (4 * t + 1) 0).toNat) * 256 + (b.getD (4 * t + 2) 0).toNat) * 256 + (b.getD (4 * t + 3) 0).toNat := by
    rw [wK, wK, wK, wK, wK, e, e, e, e]
  rw [h, Nat.add_zero]
  generalize (b.getD (4 * t) 0).toNat = x0
  generalize (b.getD (4 * t + 1) 0).toNat = x1
  generalize (b.getD (4 * t + 2) 0).toNat = x2
  generalize (b.getD (4 * t + 3) 0).toNat = x3
  exact congrArg UInt32.ofNat (by omega)
theorem or_byte (x c : Nat) (hx : x < 16777216) (hc : c < 256) : bits .or .u32 ((x : Int) * 256) (c : Int) = ((x * 256 + c : Nat) : Int) := by
  have h := bits_join .u32 32 (by decide) wraps_u32 8 (x := (x : Int) * 256) (y := (c : Int)) (by omega) (by omega) (by omega) (by omega) (by omega) (by omega)
  rw [h]
  omega
set_option maxRecDepth 100000 in
set_option maxHeartbeats 1000000 in
theorem wide_calls {w : World} (g off n c : Nat) (l : Bs) (hn : 4 ≤ n) (hnc : n ≤ c) (hn63 : n ≤ 9223372036854775807) (h : ∀ i, i < 4 → w.cell? ⟨g, off + i, none⟩ = some (.int .u8 ((l.getD i 0).toNat : Int))) :
    Calls Tryz.prog 84 #[.slice (some ⟨g, off, none⟩) n c] w fun e w' => e = .returned (uw (UInt32.ofNat (wK l 4))) ∧ w' = w := by
  have h4n : (4 : Int) ≤ (n : Int) := by omega
  have h4c : (4 : Int) ≤ (c : Int) := by omega
  have h4 : 4 ≤ c := by omega
  have H := Lib.hid h
  clear h
  go_enter Tryz.func84, Tryz.ntmps84
  go_wp2_with fail
  go_loopw [3, 5, 9] (fun v3 v5 v9 wr => ∃ k : Nat, k ≤ 4 ∧ v9 = .int .i64 k ∧ v3 = .int .u32 ((wK l k : Nat) : Int) ∧ wr = w) (fun _ _ v9 _ => 4 - (intOf v9).toNat)
  case atStart => exact ⟨0, by omega, rfl, rfl, rfl⟩
  case round =>
    obtain ⟨k, hk, rfl, rfl, rfl⟩ := hrel
    by_cases hk4 : k < 4
    · have hk4' : (k : Int) < 4 := by omega
      have hc := H.out k hk4
      have hb := (l.getD k 0).toNat_lt
      have hw : wK l k < 16777216 := by
        have := wK_lt l k
        have h2 : 256 ^ k ≤ 256 ^ 3 := Nat.pow_le_pow_right (by decide) (by omega)
        omega
      have HO := Lib.hid (or_byte (wK l k) (l.getD k 0).toNat hw hb)
      have HS := Lib.hid (show wK l (k + 1) = wK l k * 256 + (l.getD k 0).toNat from rfl)
      generalize (l.getD k 0).toNat = bv at *
      generalize wK l k = x at *
      have hx0 : (0 : Int) ≤ (x : Int) := by omega
      have hx1 : (x : Int) < 16777216 := by omega
      go_wp2
      exact ⟨⟨k + 1, by omega, by go_num, by rw [HS.out, ← HO.out], by first | rfl | trivial⟩, by simp [intOf]; omega⟩
    · have hke : k = 4 := by omega
      subst hke
      have HU := Lib.hid (show ((UInt32.ofNat (wK l 4)).toNat : Int) = ((wK l 4 : Nat) : Int) by
        have := wK_lt l 4
        rw [UInt32.toNat_ofNat']
        omega)
      go_wp2
      go_ret
      exact ⟨by rw [← HU.out] <;> rfl, rfl⟩
def kV : Array Value := (kC.map uw).toArray
def sV (s : V8) : Array Value := #[uw s.a, uw s.b, uw s.c, uw s.d, uw s.e, uw s.f, uw s.g, uw s.h]
set_option maxRecDepth 100000 in
set_option maxHeartbeats 1000000 in
theorem start_calls (w : World) : Calls Tryz.prog 69 #[] w fun e w' => e = .returned (.agg (sV start8)) ∧ Below w.heap.size w w' := by
  have HG := Lib.hid (heap_alloc_new w (.cells (sV start8) 90))
  go_enter Tryz.func69, Tryz.ntmps69
  go_wp2
  refine bodyPost_ret (results_cell_row rfl _ _ w.heap.size 90 (sV start8) (0, 0) _ rfl HG.out Tryz.underlying90 rfl (by kernel_rfl)) rfl ?_
  exact ⟨rfl, (Below.refl _ w).alloc (Nat.le_refl _) _⟩
def kZ : List Int := kC.map fun x => (x.toNat : Int)
theorem kZ_kV : (kZ.map (Value.int .u32)).toArray = kV := by
  unfold kZ kV
  rw [List.map_map]
  rfl
theorem kV_size : kV.size = 64 := by rfl
def z64 : Array Value := Array.replicate 64 (.int .u32 0)
theorem info64 : (Tryz.prog.info? 106).map (fun i => (i.zero, i.size)) = some (some (.agg z64), 64) := by kernel_rfl
attribute [local irreducible] wpList Code.wp kZ z64
set_option maxRecDepth 100000 in
set_option maxHeartbeats 4000000 in
theorem constants_calls (w : World) : Calls Tryz.prog 86 #[] w fun e w' => e = .returned (.agg kV) ∧ w' = w.alloc (.cells kV 106) := by
  obtain ⟨hz, hs⟩ := zero_of_info info64
  have HG := heap_alloc_new w (.cells kV 106)
  go_enter Tryz.func86, Tryz.ntmps86
  apply wp_seq_k; intro K0 hK0
  apply wp_region_lit
  refine Go.Great.wpList_allocTo rfl (some 0) rfl (.pointer (some ⟨w.heap.size, 0, none⟩)) (.cells z64 106) ?hr ?_
  case hr => simp [execOp, Instr.alloc, hz, Value.cells, go_sem]
  refine wpList_frame (a' := { tmps := #[.pointer (some ⟨w.heap.size, 0, none⟩), undef], defers := [] }) (by rfl) ?_
  apply wpList_nil
  refine hK0 _ _ ?_
  clear hK0 K0
  apply wp_seq_k; intro K1 hK1
  apply wp_region_lit
  refine wpList_buildFlatArrTo rfl 106 89 64 _ rfl .u32 kZ (some 1) rfl (by kernel_rfl) (by kernel_rfl) (by kernel_rfl) (by kernel_rfl) ?_
  rw [kZ_kV]
  refine wpList_frame (a' := { tmps := #[.pointer (some ⟨w.heap.size, 0, none⟩), .agg kV], defers := [] }) (by rfl) ?_
  refine wpList_store_rowTo rfl 106 _ _ rfl rfl w.heap.size kV rfl rfl 106 z64 (heap_alloc_new w _) (by rw [hs]; rfl) (by kernel_rfl) (by kernel_rfl) ?_
  apply wpList_nil
  refine hK1 _ _ ?_
  clear hK1 K1
  rw [World.setRow_alloc_new]
  go_wp2
  refine bodyPost_ret (results_cell_row rfl _ _ w.heap.size 106 kV (0, 0) _ rfl HG Tryz.underlying106 rfl (by kernel_rfl)) rfl ?_
  exact ⟨rfl, rfl⟩
end Go.Proofs.YthgjhfcafdepcaaGreatDoor.Sh

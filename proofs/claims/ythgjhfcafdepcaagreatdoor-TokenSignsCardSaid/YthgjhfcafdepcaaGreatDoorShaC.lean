/-
  SHA-256: a block, the program's: the words.
-/
import Derived.Test.YthgjhfcafdepcaaGreatDoorShaB
import Derived.StillTailTactics
import Derived.Deep.QuietTactic
import Derived.BigQuiet
import Derived.IntWalk
import Derived.Deep.DeepCutAuto
import Derived.Deep.RegionLaw
namespace Go.Proofs.YthgjhfcafdepcaaGreatDoor.Sh
open Go.RowKit Go.Proofs.YthgjhfcafdepcaaGreatDoor.B
open Go.Proofs.YthgjhfcafdepcaaGreatDoor.M hiding Bs
open Go.Proofs.YthgjhfcafdepcaaGreatDoor.C (QRow Turn)
set_option linter.unusedVariables false
set_option linter.unusedSimpArgs false

def byC (l : Bs) : List Value := l.map fun b => .int .u8 (b.toNat : Int)
/-- a state's cells. -/
def stL (s : V8) (ov : Bs) (n : Nat) : List Value := (sV s).toList ++ (byC ov ++ [.int .i64 (n : Int)])
def StB (w : World) (sb : Nat) (s : V8) (ov : Bs) (n : Nat) : Prop := w.heap[sb]? = some (.cells (stL s ov n).toArray 94 (0, 0)) ∧ ov.length = 64
theorem StB.cell {w : World} {sb : Nat} {s : V8} {ov : Bs} {n : Nat} (h : StB w sb s ov n) {i : Nat} {v : Value} (hv : (stL s ov n)[i]? = some v) : w.cell? ⟨sb, i, none⟩ = some v := by
  rw [cell_of_row w sb i _ _ (0, 0) h.1]
  simpa using hv
theorem StB.byte {w : World} {sb : Nat} {s : V8} {ov : Bs} {n : Nat} (h : StB w sb s ov n) (i : Nat) (hi : i < 64) : w.cell? ⟨sb, 8 + i, none⟩ = some (.int .u8 ((ov.getD i 0).toNat : Int)) := by
  refine h.cell ?_
  unfold stL byC
  rw [List.getElem?_append_right (by simp [sV]), List.getElem?_append_left (by simp [sV, h.2]; omega)]
  simp [sV, List.getD_eq_getElem?_getD, h.2, hi, List.getElem?_eq_getElem]
/-- the words so far. -/
def wRow (ws : List UInt32) : Array Value := (ws.map uw ++ List.replicate (64 - ws.length) (Value.int .u32 0)).toArray
theorem wRow_get (ws : List UInt32) {i : Nat} (hi : i < ws.length) : (wRow ws)[i]? = some (uw (ws.getD i 0)) := by
  unfold wRow
  rw [List.getElem?_toArray, List.getElem?_append_left (by simpa using hi)]
  simp [List.getD_eq_getElem?_getD, hi]
theorem wRow_zero {ws : List UInt32} {i : Nat} (hi : ws.length ≤ i) (h64 : i < 64) : (wRow ws)[i]? = some (.int .u32 0) := by
  unfold wRow
  rw [List.getElem?_toArray, List.getElem?_append_right (by simpa using hi)]
  rw [List.getElem?_replicate, if_pos (by rw [List.length_map]; omega)]
theorem wRow_set (ws : List UInt32) (x : UInt32) (h : ws.length < 64) : (wRow ws).setIfInBounds ws.length (uw x) = wRow (ws ++ [x]) := by
  unfold wRow
  apply Array.ext'
  simp only [Array.toList_setIfInBounds]
  rw [List.set_append_right _ _ (by simp)]
  have e : List.replicate (64 - ws.length) (Value.int .u32 0) = .int .u32 0 :: List.replicate (64 - (ws ++ [x]).length) (.int .u32 0) := by
    rw [List.length_append, show 64 - ws.length = (64 - (ws.length + [x].length)) + 1 by simp; omega, List.replicate_succ]
  rw [e]
  simp
theorem wadd_u (a b : UInt32) : IntKind.u32.wrap ((a.toNat : Int) + (b.toNat : Int)) = ((a + b).toNat : Int) := by
  rw [IntKind.wrap_u32]; exact add_u a b
theorem max_u : (if IntKind.u32.signed = true then (-1 : Int) else IntKind.u32.max) = ((4294967295 : UInt32).toNat : Int) := by decide +kernel
theorem not_u (e : UInt32) : 4294967295 ^^^ e = ~~~e := by
  rw [← UInt32.toBitVec_inj]
  show (4294967295#32) ^^^ e.toBitVec = ~~~ e.toBitVec
  rw [show (4294967295#32) = BitVec.allOnes 32 from rfl, BitVec.allOnes_xor]
theorem rx_int (V : V8) (k w : UInt32) : IntKind.u32.wrap (IntKind.u32.wrap (IntKind.u32.wrap (IntKind.u32.wrap ((V.h.toNat : Int) + bits .xor .u32 (bits .xor .u32 ((rot V.e 6).toNat : Int) ((rot V.e 11).toNat : Int)) ((rot V.e 25).toNat : Int)) +
    bits .xor .u32 (bits .and .u32 (V.e.toNat : Int) (V.f.toNat : Int)) (bits .and .u32 (bits .xor .u32 (if IntKind.u32.signed = true then (-1 : Int) else IntKind.u32.max) (V.e.toNat : Int)) (V.g.toNat : Int))) + (k.toNat : Int)) + (w.toNat : Int)) = ((rx V k w).toNat : Int) := by
  rw [max_u]
  simp only [xor_u, and_u, wadd_u, not_u]
  rfl
theorem ry_int (V : V8) : (bits .xor .u32 (bits .xor .u32 ((rot V.a 2).toNat : Int) ((rot V.a 13).toNat : Int)) ((rot V.a 22).toNat : Int) + bits .xor .u32 (bits .xor .u32 (bits .and .u32 (V.a.toNat : Int) (V.b.toNat : Int)) (bits .and .u32 (V.a.toNat : Int) (V.c.toNat : Int))) (bits .and .u32 (V.b.toNat : Int) (V.c.toNat : Int))) % (4294967296 : Int) = ((ry V).toNat : Int) := by
  simp only [xor_u, and_u]
  rw [add_u]
  rfl
theorem add4_u (a b c d : UInt32) : ((a.toNat : Int) + (b.toNat : Int) + (c.toNat : Int) + (d.toNat : Int)) % (4294967296 : Int) = ((a + b + c + d).toNat : Int) := by
  rw [UInt32.toNat_add, UInt32.toNat_add, UInt32.toNat_add]; omega
theorem wNext_int (x y u v : UInt32) : (bits .xor .u32 (bits .xor .u32 ((rot y 17).toNat : Int) ((rot y 19).toNat : Int)) ((y.toNat : Int) / (1024 : Int)) + (u.toNat : Int) + bits .xor .u32 (bits .xor .u32 ((rot x 7).toNat : Int) ((rot x 18).toNat : Int)) ((x.toNat : Int) / (8 : Int)) + (v.toNat : Int)) % (4294967296 : Int) = ((wNext x y u v).toNat : Int) := by
  rw [shr10, shr3, xor_u, xor_u, xor_u, xor_u, add4_u]
  rfl
theorem z64_lit : z64 = #[.int .u32 0, .int .u32 0, .int .u32 0, .int .u32 0, .int .u32 0, .int .u32 0, .int .u32 0, .int .u32 0, .int .u32 0, .int .u32 0, .int .u32 0, .int .u32 0, .int .u32 0, .int .u32 0, .int .u32 0, .int .u32 0, .int .u32 0, .int .u32 0, .int .u32 0, .int .u32 0, .int .u32 0, .int .u32 0, .int .u32 0, .int .u32 0, .int .u32 0, .int .u32 0, .int .u32 0, .int .u32 0, .int .u32 0, .int .u32 0, .int .u32 0, .int .u32 0, .int .u32 0, .int .u32 0, .int .u32 0, .int .u32 0, .int .u32 0, .int .u32 0, .int .u32 0, .int .u32 0, .int .u32 0, .int .u32 0, .int .u32 0, .int .u32 0, .int .u32 0, .int .u32 0, .int .u32 0, .int .u32 0, .int .u32 0, .int .u32 0, .int .u32 0, .int .u32 0, .int .u32 0, .int .u32 0, .int .u32 0, .int .u32 0, .int .u32 0, .int .u32 0, .int .u32 0, .int .u32 0, .int .u32 0, .int .u32 0, .int .u32 0, .int .u32 0] := by kernel_rfl
theorem store_kV (W : World) (g : Nat) (hg : W.heap.size = g) : (storeCells ⟨g, 0, none⟩ kV.toList).run Tryz.prog (W.alloc (.cells #[.int .u32 0, .int .u32 0, .int .u32 0, .int .u32 0, .int .u32 0, .int .u32 0, .int .u32 0, .int .u32 0, .int .u32 0, .int .u32 0, .int .u32 0, .int .u32 0, .int .u32 0, .int .u32 0, .int .u32 0, .int .u32 0, .int .u32 0, .int .u32 0, .int .u32 0, .int .u32 0, .int .u32 0, .int .u32 0, .int .u32 0, .int .u32 0, .int .u32 0, .int .u32 0, .int .u32 0, .int .u32 0, .int .u32 0, .int .u32 0, .int .u32 0, .int .u32 0, .int .u32 0, .int .u32 0, .int .u32 0, .int .u32 0, .int .u32 0, .int .u32 0, .int .u32 0, .int .u32 0, .int .u32 0, .int .u32 0, .int .u32 0, .int .u32 0, .int .u32 0, .int .u32 0, .int .u32 0, .int .u32 0, .int .u32 0, .int .u32 0, .int .u32 0, .int .u32 0, .int .u32 0, .int .u32 0, .int .u32 0, .int .u32 0, .int .u32 0, .int .u32 0, .int .u32 0, .int .u32 0, .int .u32 0, .int .u32 0, .int .u32 0, .int .u32 0] 106)) = .ok () (W.alloc (.cells kV 106)) := by
  subst hg
  rw [← z64_lit]
  exact run_storeCells_new W 106 z64 kV (by rw [(zero_of_info info64).2]; rfl) (by kernel_rfl) (by kernel_rfl)
theorem setRow_under (w : World) (c c' : Array Value) (t : TypeId) (o : Obj) : ((w.alloc (.cells c t)).alloc o).setRow w.heap.size c' = (w.alloc (.cells c' t)).alloc o := by
  simp only [World.setRow, World.alloc]
  congr 1
  apply Array.ext_getElem?
  intro i
  rw [Array.getElem?_modify]
  by_cases h : w.heap.size = i
  · subst h
    simp [Array.getElem?_push]
  · have h' : ¬ i = w.heap.size := fun e => h e.symm
    simp [h, h', Array.getElem?_push]
theorem store_kV2 (W : World) (g : Nat) (o : Obj) (hg : W.heap.size = g) : (storeCells ⟨g, 0, none⟩ kV.toList).run Tryz.prog ((W.alloc (.cells #[.int .u32 0, .int .u32 0, .int .u32 0, .int .u32 0, .int .u32 0, .int .u32 0, .int .u32 0, .int .u32 0, .int .u32 0, .int .u32 0, .int .u32 0, .int .u32 0, .int .u32 0, .int .u32 0, .int .u32 0, .int .u32 0, .int .u32 0, .int .u32 0, .int .u32 0, .int .u32 0, .int .u32 0, .int .u32 0, .int .u32 0, .int .u32 0, .int .u32 0, .int .u32 0, .int .u32 0, .int .u32 0, .int .u32 0, .int .u32 0, .int .u32 0, .int .u32 0, .int .u32 0, .int .u32 0, .int .u32 0, .int .u32 0, .int .u32 0, .int .u32 0, .int .u32 0, .int .u32 0, .int .u32 0, .int .u32 0, .int .u32 0, .int .u32 0, .int .u32 0, .int .u32 0, .int .u32 0, .int .u32 0, .int .u32 0, .int .u32 0, .int .u32 0, .int .u32 0, .int .u32 0, .int .u32 0, .int .u32 0, .int .u32 0, .int .u32 0, .int .u32 0, .int .u32 0, .int .u32 0, .int .u32 0, .int .u32 0, .int .u32 0, .int .u32 0] 106)).alloc o) = .ok () ((W.alloc (.cells kV 106)).alloc o) := by
  subst hg
  rw [← z64_lit]
  have h1 : ((W.alloc (.cells z64 106)).alloc o).heap[W.heap.size]? = some (.cells z64 106 (0, 0)) := (alloc_old _ (lt_of_heap (heap_alloc_new W _))).trans (heap_alloc_new W _)
  have := run_storeCells_from (P := Tryz.prog) W.heap.size 106 kV.toList 0 z64 _ h1 (by kernel_rfl) (fun v hv => (Array.all_eq_true_iff_forall_mem.1 (show kV.all (·.oneCell') = true by kernel_rfl)) v (by simpa using hv))
  rw [show (z64.toList.take 0 ++ kV.toList).toArray = kV by simp, setRow_under] at this
  exact this
theorem setRow_old (w : World) (g : Nat) (c' : Array Value) (o : Obj) (hg : g < w.heap.size) : (w.alloc o).setRow g c' = (w.setRow g c').alloc o := by
  simp only [World.setRow, World.alloc]
  congr 1
  apply Array.ext_getElem?
  intro i
  rw [Array.getElem?_modify, Array.getElem?_push, Array.getElem?_push, Array.size_modify, Array.getElem?_modify]
  by_cases h : g = i
  · subst h
    rw [if_pos rfl, if_pos rfl, if_neg (by omega), if_neg (by omega)]
  · rw [if_neg h, if_neg h]
theorem setRow_under2 (w : World) (c c' : Array Value) (t : TypeId) (o o2 : Obj) : (((w.alloc (.cells c t)).alloc o).alloc o2).setRow w.heap.size c' = ((w.alloc (.cells c' t)).alloc o).alloc o2 := by
  rw [setRow_old _ _ _ _ (by simp; omega), setRow_old _ _ _ _ (by simp), World.setRow_alloc_new]
theorem store_kV3 (W : World) (g : Nat) (o o2 : Obj) (hg : W.heap.size = g) : (storeCells ⟨g, 0, none⟩ kV.toList).run Tryz.prog (((W.alloc (.cells #[.int .u32 0, .int .u32 0, .int .u32 0, .int .u32 0, .int .u32 0, .int .u32 0, .int .u32 0, .int .u32 0, .int .u32 0, .int .u32 0, .int .u32 0, .int .u32 0, .int .u32 0, .int .u32 0, .int .u32 0, .int .u32 0, .int .u32 0, .int .u32 0, .int .u32 0, .int .u32 0, .int .u32 0, .int .u32 0, .int .u32 0, .int .u32 0, .int .u32 0, .int .u32 0, .int .u32 0, .int .u32 0, .int .u32 0, .int .u32 0, .int .u32 0, .int .u32 0, .int .u32 0, .int .u32 0, .int .u32 0, .int .u32 0, .int .u32 0, .int .u32 0, .int .u32 0, .int .u32 0, .int .u32 0, .int .u32 0, .int .u32 0, .int .u32 0, .int .u32 0, .int .u32 0, .int .u32 0, .int .u32 0, .int .u32 0, .int .u32 0, .int .u32 0, .int .u32 0, .int .u32 0, .int .u32 0, .int .u32 0, .int .u32 0, .int .u32 0, .int .u32 0, .int .u32 0, .int .u32 0, .int .u32 0, .int .u32 0, .int .u32 0, .int .u32 0] 106)).alloc o).alloc o2) = .ok () (((W.alloc (.cells kV 106)).alloc o).alloc o2) := by
  subst hg
  rw [← z64_lit]
  have h0 := lt_of_heap (heap_alloc_new W (.cells z64 106))
  have h1 : (((W.alloc (.cells z64 106)).alloc o).alloc o2).heap[W.heap.size]? = some (.cells z64 106 (0, 0)) := (alloc_old _ (by simp; omega)).trans ((alloc_old _ h0).trans (heap_alloc_new W _))
  have := run_storeCells_from (P := Tryz.prog) W.heap.size 106 kV.toList 0 z64 _ h1 (by kernel_rfl) (fun v hv => (Array.all_eq_true_iff_forall_mem.1 (show kV.all (·.oneCell') = true by kernel_rfl)) v (by simpa using hv))
  rw [show (z64.toList.take 0 ++ kV.toList).toArray = kV by simp, setRow_under2] at this
  exact this
theorem store_kVd (W : World) (g : Nat) (hg : W.heap.size = g) : (storeCells ⟨g, 0, none⟩ kV.toList).run Tryz.prog (W.alloc (.cells #[.int .u32 0, .int .u32 0, .int .u32 0, .int .u32 0, .int .u32 0, .int .u32 0, .int .u32 0, .int .u32 0, .int .u32 0, .int .u32 0, .int .u32 0, .int .u32 0, .int .u32 0, .int .u32 0, .int .u32 0, .int .u32 0, .int .u32 0, .int .u32 0, .int .u32 0, .int .u32 0, .int .u32 0, .int .u32 0, .int .u32 0, .int .u32 0, .int .u32 0, .int .u32 0, .int .u32 0, .int .u32 0, .int .u32 0, .int .u32 0, .int .u32 0, .int .u32 0, .int .u32 0, .int .u32 0, .int .u32 0, .int .u32 0, .int .u32 0, .int .u32 0, .int .u32 0, .int .u32 0, .int .u32 0, .int .u32 0, .int .u32 0, .int .u32 0, .int .u32 0, .int .u32 0, .int .u32 0, .int .u32 0, .int .u32 0, .int .u32 0, .int .u32 0, .int .u32 0, .int .u32 0, .int .u32 0, .int .u32 0, .int .u32 0, .int .u32 0, .int .u32 0, .int .u32 0, .int .u32 0, .int .u32 0, .int .u32 0, .int .u32 0, .int .u32 0] 106)).drew = .ok () (W.alloc (.cells kV 106)).drew := store_kV W.drew g hg
theorem store_kV2d (W : World) (g : Nat) (o : Obj) (hg : W.heap.size = g) : (storeCells ⟨g, 0, none⟩ kV.toList).run Tryz.prog ((W.alloc (.cells #[.int .u32 0, .int .u32 0, .int .u32 0, .int .u32 0, .int .u32 0, .int .u32 0, .int .u32 0, .int .u32 0, .int .u32 0, .int .u32 0, .int .u32 0, .int .u32 0, .int .u32 0, .int .u32 0, .int .u32 0, .int .u32 0, .int .u32 0, .int .u32 0, .int .u32 0, .int .u32 0, .int .u32 0, .int .u32 0, .int .u32 0, .int .u32 0, .int .u32 0, .int .u32 0, .int .u32 0, .int .u32 0, .int .u32 0, .int .u32 0, .int .u32 0, .int .u32 0, .int .u32 0, .int .u32 0, .int .u32 0, .int .u32 0, .int .u32 0, .int .u32 0, .int .u32 0, .int .u32 0, .int .u32 0, .int .u32 0, .int .u32 0, .int .u32 0, .int .u32 0, .int .u32 0, .int .u32 0, .int .u32 0, .int .u32 0, .int .u32 0, .int .u32 0, .int .u32 0, .int .u32 0, .int .u32 0, .int .u32 0, .int .u32 0, .int .u32 0, .int .u32 0, .int .u32 0, .int .u32 0, .int .u32 0, .int .u32 0, .int .u32 0, .int .u32 0] 106)).alloc o).drew = .ok () ((W.alloc (.cells kV 106)).alloc o).drew := store_kV2 W.drew g o hg
theorem store_kV3d (W : World) (g : Nat) (o o2 : Obj) (hg : W.heap.size = g) : (storeCells ⟨g, 0, none⟩ kV.toList).run Tryz.prog (((W.alloc (.cells #[.int .u32 0, .int .u32 0, .int .u32 0, .int .u32 0, .int .u32 0, .int .u32 0, .int .u32 0, .int .u32 0, .int .u32 0, .int .u32 0, .int .u32 0, .int .u32 0, .int .u32 0, .int .u32 0, .int .u32 0, .int .u32 0, .int .u32 0, .int .u32 0, .int .u32 0, .int .u32 0, .int .u32 0, .int .u32 0, .int .u32 0, .int .u32 0, .int .u32 0, .int .u32 0, .int .u32 0, .int .u32 0, .int .u32 0, .int .u32 0, .int .u32 0, .int .u32 0, .int .u32 0, .int .u32 0, .int .u32 0, .int .u32 0, .int .u32 0, .int .u32 0, .int .u32 0, .int .u32 0, .int .u32 0, .int .u32 0, .int .u32 0, .int .u32 0, .int .u32 0, .int .u32 0, .int .u32 0, .int .u32 0, .int .u32 0, .int .u32 0, .int .u32 0, .int .u32 0, .int .u32 0, .int .u32 0, .int .u32 0, .int .u32 0, .int .u32 0, .int .u32 0, .int .u32 0, .int .u32 0, .int .u32 0, .int .u32 0, .int .u32 0, .int .u32 0] 106)).alloc o).alloc o2).drew = .ok () (((W.alloc (.cells kV 106)).alloc o).alloc o2).drew := store_kV3 W.drew g o o2 hg
theorem three_new (w : World) (a b c : Obj) : ((((w.alloc a).alloc b).alloc c).drew).heap[w.heap.size]? = some a ∧ ((((w.alloc a).alloc b).alloc c).drew).heap[w.heap.size + 1]? = some b ∧ ((((w.alloc a).alloc b).alloc c).drew).heap[w.heap.size + 1 + 1]? = some c ∧ Turn (fun _ => False) w (((w.alloc a).alloc b).alloc c).drew := by
  have s1 : (w.alloc a).heap.size = w.heap.size + 1 := by simp
  have s2 : ((w.alloc a).alloc b).heap.size = w.heap.size + 1 + 1 := by simp
  have h1 := heap_alloc_new w a
  have h2 := heap_alloc_new (w.alloc a) b
  have h3 := heap_alloc_new ((w.alloc a).alloc b) c
  rw [s1] at h2
  rw [s2] at h3
  exact ⟨(alloc_old _ (by omega)).trans ((alloc_old _ (by omega)).trans h1), (alloc_old _ (by omega)).trans h2, h3, (turn_then (turn_then (Turn.alloc _ _) (Turn.alloc _ _)) (Turn.alloc _ _) : Turn (fun _ => False) w _).drew 1⟩
/-- behind the second statement: where the eight words and the constants lie. -/
structure R9 (w : World) (sb : Nat) (s : V8) (L : Bs) (n : Nat) (vb kb : Nat) (wx : World) : Prop where
  v : wx.heap[vb]? = some (.cells (sV s) 90 (0, 0))
  k : wx.heap[kb]? = some (.cells kV 106 (0, 0))
  ws : wx.heap[w.heap.size]? = some (.cells (wRow (wsT L 64)) 106 (0, 0))
  st : StB wx sb s L n
  turn : Turn (fun _ => False) w wx
  hv : w.heap.size < vb
  hk : w.heap.size < kb
  ne : vb ≠ kb
theorem R9.mk' {w wr wx : World} {sb : Nat} {s : V8} {L : Bs} {n vb kb : Nat} (HW : wr.heap[w.heap.size]? = some (.cells (wRow (wsT L 64)) 106 (0, 0))) (HS : StB wr sb s L n) (HT : Turn (fun _ => False) w wr) (hT : Turn (fun _ => False) wr wx)
    (hv : wx.heap[vb]? = some (.cells (sV s) 90 (0, 0))) (hk : wx.heap[kb]? = some (.cells kV 106 (0, 0))) (h1 : wr.heap.size ≤ vb) (h2 : wr.heap.size ≤ kb) (hne : vb ≠ kb) : R9 w sb s L n vb kb wx := by
  have hw := lt_of_heap HW
  exact ⟨hv, hk, (hT.block _ hw (fun h => h)).trans HW, ⟨(hT.block _ (lt_of_heap HS.1) (fun h => h)).trans HS.1, HS.2⟩, Turn.trans HT hT (fun _ h _ => h), by omega, by omega, hne⟩
theorem r9_0 {w w0 : World} {sb : Nat} {s : V8} {L : Bs} {n : Nat} (HW : w0.heap[w.heap.size]? = some (.cells (wRow (wsT L 64)) 106 (0, 0))) (HS : StB w0 sb s L n) (HT : Turn (fun _ => False) w w0) : R9 w sb s L n (w0.heap.size + 1) (w0.heap.size + 1 + 1) ((((w0.alloc (.cells kV 106)).alloc (.cells (sV s) 90)).alloc (.cells kV 106)).drew) := by
  have h := three_new w0 (.cells kV 106) (.cells (sV s) 90) (.cells kV 106)
  exact R9.mk' HW HS HT h.2.2.2 h.2.1 h.2.2.1 (by omega) (by omega) (by omega)
theorem r9_1 {w w0 : World} {sb : Nat} {s : V8} {L : Bs} {n : Nat} (HW : w0.heap[w.heap.size]? = some (.cells (wRow (wsT L 64)) 106 (0, 0))) (HS : StB w0 sb s L n) (HT : Turn (fun _ => False) w w0) : R9 w sb s L n (w0.heap.size) (w0.heap.size + 1 + 1) ((((w0.alloc (.cells (sV s) 90)).alloc (.cells kV 106)).alloc (.cells kV 106)).drew) := by
  have h := three_new w0 (.cells (sV s) 90) (.cells kV 106) (.cells kV 106)
  exact R9.mk' HW HS HT h.2.2.2 h.1 h.2.2.1 (by omega) (by omega) (by omega)
theorem r9_2 {w w0 : World} {sb : Nat} {s : V8} {L : Bs} {n : Nat} (HW : w0.heap[w.heap.size]? = some (.cells (wRow (wsT L 64)) 106 (0, 0))) (HS : StB w0 sb s L n) (HT : Turn (fun _ => False) w w0) : R9 w sb s L n (w0.heap.size) (w0.heap.size + 1) ((((w0.alloc (.cells (sV s) 90)).alloc (.cells kV 106)).alloc (.cells kV 106)).drew) := by
  have h := three_new w0 (.cells (sV s) 90) (.cells kV 106) (.cells kV 106)
  exact R9.mk' HW HS HT h.2.2.2 h.1 h.2.1 (by omega) (by omega) (by omega)
theorem r9_3 {w w0 : World} {sb : Nat} {s : V8} {L : Bs} {n : Nat} (HW : w0.heap[w.heap.size]? = some (.cells (wRow (wsT L 64)) 106 (0, 0))) (HS : StB w0 sb s L n) (HT : Turn (fun _ => False) w w0) : R9 w sb s L n (w0.heap.size + 1) (w0.heap.size) ((((w0.alloc (.cells kV 106)).alloc (.cells (sV s) 90)).alloc (.cells kV 106)).drew) := by
  have h := three_new w0 (.cells kV 106) (.cells (sV s) 90) (.cells kV 106)
  exact R9.mk' HW HS HT h.2.2.2 h.2.1 h.1 (by omega) (by omega) (by omega)
theorem r9_4 {w w0 : World} {sb : Nat} {s : V8} {L : Bs} {n : Nat} (HW : w0.heap[w.heap.size]? = some (.cells (wRow (wsT L 64)) 106 (0, 0))) (HS : StB w0 sb s L n) (HT : Turn (fun _ => False) w w0) : R9 w sb s L n (w0.heap.size + 1 + 1) (w0.heap.size) ((((w0.alloc (.cells kV 106)).alloc (.cells kV 106)).alloc (.cells (sV s) 90)).drew) := by
  have h := three_new w0 (.cells kV 106) (.cells kV 106) (.cells (sV s) 90)
  exact R9.mk' HW HS HT h.2.2.2 h.2.2.1 h.1 (by omega) (by omega) (by omega)
theorem r9_5 {w w0 : World} {sb : Nat} {s : V8} {L : Bs} {n : Nat} (HW : w0.heap[w.heap.size]? = some (.cells (wRow (wsT L 64)) 106 (0, 0))) (HS : StB w0 sb s L n) (HT : Turn (fun _ => False) w w0) : R9 w sb s L n (w0.heap.size + 1 + 1) (w0.heap.size + 1) ((((w0.alloc (.cells kV 106)).alloc (.cells kV 106)).alloc (.cells (sV s) 90)).drew) := by
  have h := three_new w0 (.cells kV 106) (.cells kV 106) (.cells (sV s) 90)
  exact R9.mk' HW HS HT h.2.2.2 h.2.2.1 h.2.1 (by omega) (by omega) (by omega)
structure R10 (w : World) (sb : Nat) (s : V8) (L : Bs) (n : Nat) (vb kb t : Nat) (wx : World) : Prop where
  v : wx.heap[vb]? = some (.cells (sV (vT (wsT L 64) s t)) 90 (0, 0))
  k : wx.heap[kb]? = some (.cells kV 106 (0, 0))
  ws : wx.heap[w.heap.size]? = some (.cells (wRow (wsT L 64)) 106 (0, 0))
  st : StB wx sb s L n
  turn : Turn (fun _ => False) w wx
  hv : w.heap.size < vb
  hk : w.heap.size < kb
  ne : vb ≠ kb
theorem R10.of9 {w wx : World} {sb : Nat} {s : V8} {L : Bs} {n vb kb : Nat} (h : R9 w sb s L n vb kb wx) : R10 w sb s L n vb kb 0 wx := ⟨h.v, h.k, h.ws, h.st, h.turn, h.hv, h.hk, h.ne⟩
theorem R10.drewN {w wx : World} {sb : Nat} {s : V8} {L : Bs} {n vb kb t : Nat} (h : R10 w sb s L n vb kb t wx) (m : Nat) : R10 w sb s L n vb kb t (wx.drewN m) := ⟨h.v, h.k, h.ws, ⟨h.st.1, h.st.2⟩, h.turn.drew m, h.hv, h.hk, h.ne⟩
theorem R10.eight {w wx : World} {sb : Nat} {s : V8} {L : Bs} {n vb kb t : Nat} (h : R10 w sb s L n vb kb t wx) :
    wx.cell? ⟨vb, 0, none⟩ = some (uw (vT (wsT L 64) s t).a) ∧ wx.cell? ⟨vb, 1, none⟩ = some (uw (vT (wsT L 64) s t).b) ∧ wx.cell? ⟨vb, 2, none⟩ = some (uw (vT (wsT L 64) s t).c) ∧ wx.cell? ⟨vb, 3, none⟩ = some (uw (vT (wsT L 64) s t).d) ∧
    wx.cell? ⟨vb, 4, none⟩ = some (uw (vT (wsT L 64) s t).e) ∧ wx.cell? ⟨vb, 5, none⟩ = some (uw (vT (wsT L 64) s t).f) ∧ wx.cell? ⟨vb, 6, none⟩ = some (uw (vT (wsT L 64) s t).g) ∧ wx.cell? ⟨vb, 7, none⟩ = some (uw (vT (wsT L 64) s t).h) ∧
    wx.frozen? ⟨vb, 0, none⟩ = false ∧ wx.frozen? ⟨vb, 1, none⟩ = false ∧ wx.frozen? ⟨vb, 2, none⟩ = false ∧ wx.frozen? ⟨vb, 3, none⟩ = false ∧ wx.frozen? ⟨vb, 4, none⟩ = false ∧ wx.frozen? ⟨vb, 5, none⟩ = false ∧ wx.frozen? ⟨vb, 6, none⟩ = false ∧ wx.frozen? ⟨vb, 7, none⟩ = false := by
  have c := fun i => cell_of_row wx vb i _ _ (0, 0) h.v
  have f := fun i => frozen_of_row wx vb i _ _ h.v
  exact ⟨c 0, c 1, c 2, c 3, c 4, c 5, c 6, c 7, f 0, f 1, f 2, f 3, f 4, f 5, f 6, f 7⟩
theorem set8 {wx : World} {vb : Nat} {x0 x1 x2 x3 x4 x5 x6 x7 : Value} {e : TypeId} (h : wx.heap[vb]? = some (.cells #[x0, x1, x2, x3, x4, x5, x6, x7] e (0, 0))) (y0 y1 y2 y3 y4 y5 y6 y7 : Value) : ((((((((wx.setCell ⟨vb, 0, none⟩ y0).setCell ⟨vb, 1, none⟩ y1).setCell ⟨vb, 2, none⟩ y2).setCell ⟨vb, 3, none⟩ y3).setCell ⟨vb, 4, none⟩ y4).setCell ⟨vb, 5, none⟩ y5).setCell ⟨vb, 6, none⟩ y6).setCell ⟨vb, 7, none⟩ y7).heap[vb]? = some (.cells #[y0, y1, y2, y3, y4, y5, y6, y7] e (0, 0)) := by
  have h0 : (wx.setCell ⟨vb, 0, none⟩ y0).heap[vb]? = some (.cells #[y0, x1, x2, x3, x4, x5, x6, x7] e (0, 0)) := heap_setCell_same _ vb 0 _ _ _ h
  have h1 : ((wx.setCell ⟨vb, 0, none⟩ y0).setCell ⟨vb, 1, none⟩ y1).heap[vb]? = some (.cells #[y0, y1, x2, x3, x4, x5, x6, x7] e (0, 0)) := heap_setCell_same _ vb 1 _ _ _ h0
  have h2 : (((wx.setCell ⟨vb, 0, none⟩ y0).setCell ⟨vb, 1, none⟩ y1).setCell ⟨vb, 2, none⟩ y2).heap[vb]? = some (.cells #[y0, y1, y2, x3, x4, x5, x6, x7] e (0, 0)) := heap_setCell_same _ vb 2 _ _ _ h1
  have h3 : ((((wx.setCell ⟨vb, 0, none⟩ y0).setCell ⟨vb, 1, none⟩ y1).setCell ⟨vb, 2, none⟩ y2).setCell ⟨vb, 3, none⟩ y3).heap[vb]? = some (.cells #[y0, y1, y2, y3, x4, x5, x6, x7] e (0, 0)) := heap_setCell_same _ vb 3 _ _ _ h2
  have h4 : (((((wx.setCell ⟨vb, 0, none⟩ y0).setCell ⟨vb, 1, none⟩ y1).setCell ⟨vb, 2, none⟩ y2).setCell ⟨vb, 3, none⟩ y3).setCell ⟨vb, 4, none⟩ y4).heap[vb]? = some (.cells #[y0, y1, y2, y3, y4, x5, x6, x7] e (0, 0)) := heap_setCell_same _ vb 4 _ _ _ h3
  have h5 : ((((((wx.setCell ⟨vb, 0, none⟩ y0).setCell ⟨vb, 1, none⟩ y1).setCell ⟨vb, 2, none⟩ y2).setCell ⟨vb, 3, none⟩ y3).setCell ⟨vb, 4, none⟩ y4).setCell ⟨vb, 5, none⟩ y5).heap[vb]? = some (.cells #[y0, y1, y2, y3, y4, y5, x6, x7] e (0, 0)) := heap_setCell_same _ vb 5 _ _ _ h4
  have h6 : (((((((wx.setCell ⟨vb, 0, none⟩ y0).setCell ⟨vb, 1, none⟩ y1).setCell ⟨vb, 2, none⟩ y2).setCell ⟨vb, 3, none⟩ y3).setCell ⟨vb, 4, none⟩ y4).setCell ⟨vb, 5, none⟩ y5).setCell ⟨vb, 6, none⟩ y6).heap[vb]? = some (.cells #[y0, y1, y2, y3, y4, y5, y6, x7] e (0, 0)) := heap_setCell_same _ vb 6 _ _ _ h5
  have h7 : ((((((((wx.setCell ⟨vb, 0, none⟩ y0).setCell ⟨vb, 1, none⟩ y1).setCell ⟨vb, 2, none⟩ y2).setCell ⟨vb, 3, none⟩ y3).setCell ⟨vb, 4, none⟩ y4).setCell ⟨vb, 5, none⟩ y5).setCell ⟨vb, 6, none⟩ y6).setCell ⟨vb, 7, none⟩ y7).heap[vb]? = some (.cells #[y0, y1, y2, y3, y4, y5, y6, y7] e (0, 0)) := heap_setCell_same _ vb 7 _ _ _ h6
  exact h7
theorem set8_turn (wx : World) (vb : Nat) (y0 y1 y2 y3 y4 y5 y6 y7 : Value) : Turn (fun k => k = vb) wx ((((((((wx.setCell ⟨vb, 0, none⟩ y0).setCell ⟨vb, 1, none⟩ y1).setCell ⟨vb, 2, none⟩ y2).setCell ⟨vb, 3, none⟩ y3).setCell ⟨vb, 4, none⟩ y4).setCell ⟨vb, 5, none⟩ y5).setCell ⟨vb, 6, none⟩ y6).setCell ⟨vb, 7, none⟩ y7) :=
  turn_then (turn_then (turn_then (turn_then (turn_then (turn_then (turn_then (Turn.setCell _ _ _ rfl) (Turn.setCell _ _ _ rfl)) (Turn.setCell _ _ _ rfl)) (Turn.setCell _ _ _ rfl)) (Turn.setCell _ _ _ rfl)) (Turn.setCell _ _ _ rfl)) (Turn.setCell _ _ _ rfl)) (Turn.setCell _ _ _ rfl)
theorem R10.next {w wx W : World} {sb : Nat} {s v' : V8} {L : Bs} {n vb kb t : Nat} (h : R10 w sb s L n vb kb t wx) (hv : vT (wsT L 64) s (t + 1) = v') (hsl : sb < w.heap.size)
    (hT : Turn (fun k => k = vb) wx W) (hW : W.heap[vb]? = some (.cells #[uw v'.a, uw v'.b, uw v'.c, uw v'.d, uw v'.e, uw v'.f, uw v'.g, uw v'.h] 90 (0, 0))) : R10 w sb s L n vb kb (t + 1) W := by
  have hv1 := h.hv
  have hne := h.ne
  refine ⟨?_, (hT.block _ (lt_of_heap h.k) (fun e => hne e.symm)).trans h.k, (hT.block _ (lt_of_heap h.ws) (by omega)).trans h.ws, ⟨(hT.block _ (lt_of_heap h.st.1) (by omega)).trans h.st.1, h.st.2⟩, Turn.trans h.turn hT (fun k hk hlt => by omega), h.hv, h.hk, h.ne⟩
  rw [hv]
  exact hW
theorem R10.kAt {w wx : World} {sb : Nat} {s : V8} {L : Bs} {n vb kb t : Nat} (h : R10 w sb s L n vb kb t wx) (ht : t < 64) : wx.cell? ⟨kb, t, none⟩ = some (uw (kC.getD t 0)) := by
  rw [cell_of_row wx kb t _ _ (0, 0) h.k]
  unfold kV
  rw [List.getElem?_toArray, List.getElem?_map, List.getD_eq_getElem?_getD, List.getElem?_eq_getElem (by exact ht)]
  rfl
theorem R10.wAt {w wx : World} {sb : Nat} {s : V8} {L : Bs} {n vb kb t : Nat} (h : R10 w sb s L n vb kb t wx) (ht : t < 64) : wx.cell? ⟨w.heap.size, t, none⟩ = some (uw ((wsT L 64).getD t 0)) := by
  rw [cell_of_row wx w.heap.size t _ _ (0, 0) h.ws, wRow_get _ (by rw [wsT_len]; exact ht)]
def wd8 (v : V8) : Nat → UInt32
  | 0 => v.a
  | 1 => v.b
  | 2 => v.c
  | 3 => v.d
  | 4 => v.e
  | 5 => v.f
  | 6 => v.g
  | _ => v.h
/-- the first words summed. -/
def mixV (s V : V8) (t : Nat) : V8 := ⟨if 0 < t then s.a + V.a else s.a, if 1 < t then s.b + V.b else s.b, if 2 < t then s.c + V.c else s.c, if 3 < t then s.d + V.d else s.d, if 4 < t then s.e + V.e else s.e, if 5 < t then s.f + V.f else s.f, if 6 < t then s.g + V.g else s.g, if 7 < t then s.h + V.h else s.h⟩
structure R11 (w : World) (sb : Nat) (s V : V8) (L : Bs) (n : Nat) (vb t : Nat) (wx : World) : Prop where
  v : wx.heap[vb]? = some (.cells (sV V) 90 (0, 0))
  st : StB wx sb (mixV s V t) L n
  turn : Turn (fun k => k = sb) w wx
  hv : w.heap.size < vb
  hs : sb < w.heap.size
theorem R11.of10 {w wx : World} {sb : Nat} {s : V8} {L : Bs} {n vb kb : Nat} (hsl : sb < w.heap.size) (h : R10 w sb s L n vb kb 64 wx) : R11 w sb s (vT (wsT L 64) s 64) L n vb 0 wx :=
  ⟨h.v, h.st, Turn.mono h.turn (fun _ h _ => h.elim), h.hv, hsl⟩
theorem sV_get (v : V8) {t : Nat} (ht : t < 8) : (sV v)[t]? = some (uw (wd8 v t)) := by
  match t, ht with
  | 0, _ => rfl
  | 1, _ => rfl
  | 2, _ => rfl
  | 3, _ => rfl
  | 4, _ => rfl
  | 5, _ => rfl
  | 6, _ => rfl
  | 7, _ => rfl
theorem mix_get (s V : V8) {t : Nat} (ht : t < 8) : wd8 (mixV s V t) t = wd8 s t := by
  match t, ht with
  | 0, _ => rfl
  | 1, _ => rfl
  | 2, _ => rfl
  | 3, _ => rfl
  | 4, _ => rfl
  | 5, _ => rfl
  | 6, _ => rfl
  | 7, _ => rfl
theorem mix_set (s V : V8) (L : Bs) (n : Nat) {t : Nat} (ht : t < 8) : ((stL (mixV s V t) L n).toArray).setIfInBounds t (uw (wd8 s t + wd8 V t)) = (stL (mixV s V (t + 1)) L n).toArray := by
  apply Array.ext'
  simp only [Array.toList_setIfInBounds]
  match t, ht with
  | 0, _ => rfl
  | 1, _ => rfl
  | 2, _ => rfl
  | 3, _ => rfl
  | 4, _ => rfl
  | 5, _ => rfl
  | 6, _ => rfl
  | 7, _ => rfl
theorem R11.sAt {w wx : World} {sb : Nat} {s V : V8} {L : Bs} {n vb t : Nat} (h : R11 w sb s V L n vb t wx) (ht : t < 8) : ∃ x, x = wd8 s t ∧ wx.cell? ⟨sb, t, none⟩ = some (uw x) ∧ wx.frozen? ⟨sb, t, none⟩ = false := by
  refine ⟨_, rfl, ?_, frozen_of_row wx sb t _ _ h.st.1⟩
  refine h.st.cell ?_
  unfold stL
  rw [List.getElem?_append_left (by simp [sV]; omega), Array.getElem?_toList, sV_get _ ht, mix_get _ _ ht]
theorem R11.vAt {w wx : World} {sb : Nat} {s V : V8} {L : Bs} {n vb t : Nat} (h : R11 w sb s V L n vb t wx) (ht : t < 8) : ∃ y, y = wd8 V t ∧ wx.cell? ⟨vb, t, none⟩ = some (uw y) := by
  refine ⟨_, rfl, ?_⟩
  rw [cell_of_row wx vb t _ _ (0, 0) h.v, sV_get _ ht]
theorem R11.next {w wx : World} {sb : Nat} {s V : V8} {L : Bs} {n vb t : Nat} {x y : UInt32} (h : R11 w sb s V L n vb t wx) (ht : t < 8) (hx : x = wd8 s t) (hy : y = wd8 V t) : R11 w sb s V L n vb (t + 1) (wx.setCell ⟨sb, t, none⟩ (uw (x + y))).drew := by
  have hv := h.hv
  have hs := h.hs
  have hT : Turn (fun k => k = sb) wx (wx.setCell ⟨sb, t, none⟩ (uw (x + y))).drew := (Turn.setCell (fp := fun k => k = sb) _ _ _ rfl).drew 1
  refine ⟨(hT.block _ (lt_of_heap h.v) (by omega)).trans h.v, ⟨?_, h.st.2⟩, turn_then h.turn hT, hv, hs⟩
  have := heap_setCell_same wx sb t _ _ (uw (x + y)) h.st.1
  rw [hx, hy, mix_set _ _ _ _ ht] at this
  rw [hx, hy]
  exact this
theorem R11.fin {w wx : World} {sb : Nat} {s V : V8} {L : Bs} {n vb : Nat} (h : R11 w sb s V L n vb 8 wx) : StB wx sb (addV s V) L n ∧ Turn (fun k => k = sb) w wx := ⟨h.st, h.turn⟩
theorem at64 {i : Nat} (t : Nat) (k : Nat) (h : k ≤ t) (hi : t - k = i) : ((t : Int) - (k : Int)) = (i : Int) := by omega
set_option maxRecDepth 100000 in
set_option maxHeartbeats 8000000 in
theorem block_calls {w : World} {sb : Nat} {s : V8} {L : Bs} {n : Nat} (h : StB w sb s L n) : Calls Tryz.prog 70 #[.pointer (some ⟨sb, 0, none⟩), .slice (some ⟨sb, 8, none⟩) 64 64] w fun e w' => e = .returned (.tuple #[]) ∧ StB w' sb (blockF s L) L n ∧ Turn (fun k => k = sb) w w' := by
  have hsl : sb < w.heap.size := lt_of_heap h.1
  have HS := Lib.hid h
  clear h
  go_enter Tryz.func70, Tryz.ntmps70
  have HW0 := Lib.hid (heap_alloc_new w (.cells (wRow []) 106))
  have HS0 := Lib.hid (show StB (w.alloc (.cells (wRow []) 106)) sb s L n from ⟨(alloc_old _ hsl).trans HS.out.1, HS.out.2⟩)
  have HT0 := Lib.hid (show Turn (fun _ => False) w (w.alloc (.cells (wRow []) 106)) from Turn.alloc _ _)
  go_wp2_with fail
  show Code.wp _ _ _ _ (w.alloc (.cells (wRow []) 106))
  generalize (w.alloc (.cells (wRow []) 106)) = V0 at *
  go_loopw [5, 6, 7, 20] (fun v5 v6 v7 v20 wr => ∃ t : Nat, t ≤ 64 ∧ v20 = .int .i64 t ∧ Hid (wr.heap[w.heap.size]? = some (.cells (wRow (wsT L t)) 106 (0, 0))) ∧ Hid (StB wr sb s L n) ∧ Hid (Turn (fun _ => False) w wr)) (fun _ _ _ v20 _ => 64 - (intOf v20).toNat)
  case atStart => exact ⟨0, by omega, rfl, HW0, HS0, HT0⟩
  case round =>
    clear HW0 HS0 HT0
    obtain ⟨t, ht, rfl, HW, HS1, HT⟩ := hrel
    have hwl := wsT_len L t
    by_cases h64 : t < 64
    · have h64' : (t : Int) < 64 := by omega
      have hz := cell_of_row wr w.heap.size t _ _ (0, 0) HW.out
      rw [wRow_zero (by omega) h64] at hz
      have hfz := frozen_of_row wr w.heap.size t _ _ HW.out
      have t0 : (0 : Int) ≤ (t : Int) := by omega
      by_cases h16 : t < 16
      · have h16' : (t : Int) < 16 := by omega
        obtain ⟨q, hq⟩ : ∃ q, 4 * t = q := ⟨_, rfl⟩
        have hq' : (4 : Int) * (t : Int) = (q : Int) := by omega
        have q0 : (0 : Int) ≤ (q : Int) := by omega
        have q1 : (q : Int) ≤ 64 := by omega
        have HWD := Lib.hid (wide_calls (w := wr) sb (8 + q) (64 - q) (64 - q) (L.drop q) (by omega) (Nat.le_refl _) (by omega) (fun i hi => by
          have := HS1.out.byte (q + i) (by omega)
          rw [← Nat.add_assoc] at this
          rw [this, List.getD_eq_getElem?_getD, List.getD_eq_getElem?_getD, List.getElem?_drop]))
        clear hq
        have hset := heap_setCell_same wr w.heap.size t _ _ (uw (UInt32.ofNat (wK (L.drop q) 4))) HW.out
        have hwq : UInt32.ofNat (wK (L.drop q) 4) = wordAt L t := by rw [word_wK, show 4 * t = q by omega]
        rw [show (wRow (wsT L t)).setIfInBounds t (uw (UInt32.ofNat (wK (L.drop q) 4))) = wRow (wsT L (t + 1)) by
          have := wRow_set (wsT L t) (wordAt L t) (by omega)
          rw [hwl] at this
          rw [hwq, this, wsT, stepW, hwl, if_pos h16]] at hset
        have HN := Lib.hid hset
        have HS2 := Lib.hid (show StB (wr.setCell ⟨w.heap.size, t, none⟩ (uw (UInt32.ofNat (wK (L.drop q) 4)))) sb s L n from ⟨(heap_setCell_other _ _ _ _ (by show sb ≠ w.heap.size; omega)).trans HS1.out.1, HS1.out.2⟩)
        have HT2 := Lib.hid (Turn.trans HT.out (Turn.setCell (fp := fun k => k = w.heap.size) wr ⟨w.heap.size, t, none⟩ (uw (UInt32.ofNat (wK (L.drop q) 4))) rfl) (fun k hk hlt => by omega) : Turn (fun _ => False) w _)
        clear hset hwq
        go_wp2_with fail
        refine HWD.out.mono ?_
        rintro e w' ⟨rfl, rfl⟩
        go_wp2
        exact ⟨⟨t + 1, by omega, by go_num, HN, HS2, HT2⟩, by simp [intOf]; omega⟩
      · have h16' : ¬ (t : Int) < 16 := by omega
        obtain ⟨a15, ha15⟩ : ∃ a, t - 15 = a := ⟨_, rfl⟩
        obtain ⟨a2, ha2⟩ : ∃ a, t - 2 = a := ⟨_, rfl⟩
        obtain ⟨a7, ha7⟩ : ∃ a, t - 7 = a := ⟨_, rfl⟩
        obtain ⟨a16, ha16⟩ : ∃ a, t - 16 = a := ⟨_, rfl⟩
        have e15 : (t : Int) - 15 = (a15 : Int) := by omega
        have e2 : (t : Int) - 2 = (a2 : Int) := by omega
        have e7 : (t : Int) - 7 = (a7 : Int) := by omega
        have e16 : (t : Int) - 16 = (a16 : Int) := by omega
        have p15 : (0 : Int) ≤ (a15 : Int) := by omega
        have p2 : (0 : Int) ≤ (a2 : Int) := by omega
        have p7 : (0 : Int) ≤ (a7 : Int) := by omega
        have p16 : (0 : Int) ≤ (a16 : Int) := by omega
        have l15 : (a15 : Int) < 64 := by omega
        have l2 : (a2 : Int) < 64 := by omega
        have l7 : (a7 : Int) < 64 := by omega
        have l16 : (a16 : Int) < 64 := by omega
        have c15 := cell_of_row wr w.heap.size a15 _ _ (0, 0) HW.out
        rw [wRow_get _ (by omega)] at c15
        have c2 := cell_of_row wr w.heap.size a2 _ _ (0, 0) HW.out
        rw [wRow_get _ (by omega)] at c2
        have c7 := cell_of_row wr w.heap.size a7 _ _ (0, 0) HW.out
        rw [wRow_get _ (by omega)] at c7
        have c16 := cell_of_row wr w.heap.size a16 _ _ (0, 0) HW.out
        rw [wRow_get _ (by omega)] at c16
        have HNX := Lib.hid (show wsT L (t + 1) = wsT L t ++ [wNext ((wsT L t).getD a15 0) ((wsT L t).getD a2 0) ((wsT L t).getD a7 0) ((wsT L t).getD a16 0)] by
          rw [wsT, stepW, hwl, if_neg h16, ha15, ha2, ha7, ha16])
        generalize (wsT L t).getD a15 0 = x15 at *
        generalize (wsT L t).getD a2 0 = x2 at *
        generalize (wsT L t).getD a7 0 = x7 at *
        generalize (wsT L t).getD a16 0 = x16 at *
        have y0 : (0 : Int) ≤ (x2.toNat : Int) := by omega
        have y1 := u32_lt x2
        have y2 : (0 : Int) ≤ (x15.toNat : Int) := by omega
        have y3 := u32_lt x15
        have w7 : IntKind.i64.wrap (a7 : Int) = (a7 : Int) := IntWalk.i64_in _ ⟨by omega, by omega⟩
        have w16 : IntKind.i64.wrap (a16 : Int) = (a16 : Int) := IntWalk.i64_in _ ⟨by omega, by omega⟩
        have HE := Lib.hid (wNext_int x15 x2 x7 x16)
        clear ha15 ha2 ha7 ha16
        go_wp2_with fail
        go_quiet (fail)
        go_wp2_with fail
        generalize hWd : World.drewN wr _ = wd
        have HWd := Lib.hid (show wd.heap[w.heap.size]? = some (.cells (wRow (wsT L t)) 106 (0, 0)) by rw [← hWd]; exact HW.out)
        have HSd := Lib.hid (show StB wd sb s L n by rw [← hWd]; exact HS1.out)
        have HTd := Lib.hid (show Turn (fun _ => False) w wd by rw [← hWd]; exact HT.out.drew _)
        have c7 : wd.cell? ⟨w.heap.size, a7, none⟩ = some (uw x7) := by rw [← hWd]; exact c7
        have c16 : wd.cell? ⟨w.heap.size, a16, none⟩ = some (uw x16) := by rw [← hWd]; exact c16
        have hz : wd.cell? ⟨w.heap.size, t, none⟩ = some (.int .u32 0) := by rw [← hWd]; exact hz
        have hfz : wd.frozen? ⟨w.heap.size, t, none⟩ = false := by rw [← hWd]; exact hfz
        clear hWd
        refine wp_region_still_tail 29 (by kernel_rfl) (by kernel_rfl) ?_
        simp only [List.take_succ_cons, List.take_zero, List.drop_succ_cons, List.drop_zero]
        still_step
        still_step
        still_call (turn17 _ _)
        still_step
        still_call (turn19 _ _)
        still_step
        still_step
        still_step
        still_step
        still_step
        still_step
        still_step
        still_step
        still_step
        still_step
        still_call (turn7 _ _)
        still_step
        still_call (turn18 _ _)
        still_step
        still_step
        still_step
        still_step
        still_step
        still_step
        still_step
        still_step
        still_step
        still_step
        still_step
        refine wpStill_nil ?_
        change wpList _ _ _ _ _ wd.drew
        go_wp2
        rw [HE.out]
        have hset := heap_setCell_same wd w.heap.size t _ _ (uw (wNext x15 x2 x7 x16)) HWd.out
        rw [show (wRow (wsT L t)).setIfInBounds t (uw (wNext x15 x2 x7 x16)) = wRow (wsT L (t + 1)) by
          have := wRow_set (wsT L t) (wNext x15 x2 x7 x16) (by omega)
          rw [hwl] at this
          rw [this, HNX.out]] at hset
        have hT2 : Turn (fun _ => False) w (wd.setCell ⟨w.heap.size, t, none⟩ (uw (wNext x15 x2 x7 x16))) := Turn.trans HTd.out (Turn.setCell (fp := fun k => k = w.heap.size) wd ⟨w.heap.size, t, none⟩ (uw (wNext x15 x2 x7 x16)) rfl) (fun k hk hlt => by omega)
        exact ⟨⟨t + 1, by omega, by go_num, Lib.hid hset, Lib.hid ⟨(heap_setCell_other _ _ _ _ (by show sb ≠ w.heap.size; omega)).trans HSd.out.1, HSd.out.2⟩, Lib.hid (hT2.drew 1)⟩, by simp [intOf]; omega⟩
    · have hte : t = 64 := by omega
      subst hte
      have s0 := HS1.out.cell (i := 0) rfl
      have s1 := HS1.out.cell (i := 1) rfl
      have s2 := HS1.out.cell (i := 2) rfl
      have s3 := HS1.out.cell (i := 3) rfl
      have s4 := HS1.out.cell (i := 4) rfl
      have s5 := HS1.out.cell (i := 5) rfl
      have s6 := HS1.out.cell (i := 6) rfl
      have s7 := HS1.out.cell (i := 7) rfl
      have s0a := fun o => cellAlloc s0 o
      have s0b := fun o o2 => cellAlloc (cellAlloc s0 o) o2
      have s0c := fun o o2 o3 => cellAlloc (cellAlloc (cellAlloc s0 o) o2) o3
      have s1a := fun o => cellAlloc s1 o
      have s1b := fun o o2 => cellAlloc (cellAlloc s1 o) o2
      have s1c := fun o o2 o3 => cellAlloc (cellAlloc (cellAlloc s1 o) o2) o3
      have s2a := fun o => cellAlloc s2 o
      have s2b := fun o o2 => cellAlloc (cellAlloc s2 o) o2
      have s2c := fun o o2 o3 => cellAlloc (cellAlloc (cellAlloc s2 o) o2) o3
      have s3a := fun o => cellAlloc s3 o
      have s3b := fun o o2 => cellAlloc (cellAlloc s3 o) o2
      have s3c := fun o o2 o3 => cellAlloc (cellAlloc (cellAlloc s3 o) o2) o3
      have s4a := fun o => cellAlloc s4 o
      have s4b := fun o o2 => cellAlloc (cellAlloc s4 o) o2
      have s4c := fun o o2 o3 => cellAlloc (cellAlloc (cellAlloc s4 o) o2) o3
      have s5a := fun o => cellAlloc s5 o
      have s5b := fun o o2 => cellAlloc (cellAlloc s5 o) o2
      have s5c := fun o o2 o3 => cellAlloc (cellAlloc (cellAlloc s5 o) o2) o3
      have s6a := fun o => cellAlloc s6 o
      have s6b := fun o o2 => cellAlloc (cellAlloc s6 o) o2
      have s6c := fun o o2 o3 => cellAlloc (cellAlloc (cellAlloc s6 o) o2) o3
      have s7a := fun o => cellAlloc s7 o
      have s7b := fun o o2 => cellAlloc (cellAlloc s7 o) o2
      have s7c := fun o o2 o3 => cellAlloc (cellAlloc (cellAlloc s7 o) o2) o3
      have hst := store_kVd
      have hst2 := store_kV2d
      have hks := kV_size
      have hst3 := store_kV3d
      have HR9 := Lib.hid (And.intro HW.out (And.intro HS1.out HT.out))
      go_upto_region 9 with fail
      go_cut [8, 9] (fun s8 s9 wx => ∃ vb kb, s8 = .pointer (some ⟨vb, 0, none⟩) ∧ s9 = .pointer (some ⟨kb, 0, none⟩) ∧ Hid (R9 w sb s L n vb kb wx))
      case first =>
        go_wp2_with fail
        go_region_law (go_simp; (with_reducible refine (constants_calls _).mono ?_); rintro e wc ⟨rfl, rfl⟩)
        all_goals
          go_wp2_with fail
          go_meet
          have h9 := HR9.out
          first
            | exact ⟨_, _, rfl, rfl, Lib.hid (r9_0 h9.1 h9.2.1 h9.2.2)⟩
            | exact ⟨_, _, rfl, rfl, Lib.hid (r9_1 h9.1 h9.2.1 h9.2.2)⟩
            | exact ⟨_, _, rfl, rfl, Lib.hid (r9_2 h9.1 h9.2.1 h9.2.2)⟩
            | exact ⟨_, _, rfl, rfl, Lib.hid (r9_3 h9.1 h9.2.1 h9.2.2)⟩
            | exact ⟨_, _, rfl, rfl, Lib.hid (r9_4 h9.1 h9.2.1 h9.2.2)⟩
            | exact ⟨_, _, rfl, rfl, Lib.hid (r9_5 h9.1 h9.2.1 h9.2.2)⟩
      case rest =>
        obtain ⟨vb, kb, rfl, rfl, H9⟩ := hcut
        clear HW HS1 HT HR9 hst hst2 hst3 s0 s1 s2 s3 s4 s5 s6 s7 s0a s1a s2a s3a s4a s5a s6a s7a s0b s1b s2b s3b s4b s5b s6b s7b s0c s1c s2c s3c s4c s5c s6c s7c hks
        go_wp2_with fail
        go_loopw [10, 11, 12, 13, 14, 15, 16, 17, 18, 75] (fun v10 v11 v12 v13 v14 v15 v16 v17 v18 v75 wr => ∃ t : Nat, t ≤ 64 ∧ v75 = .int .i64 t ∧ Hid (R10 w sb s L n vb kb t wr)) (fun _ _ _ _ _ _ _ _ _ v75 _ => 64 - (intOf v75).toNat)
        case atStart => exact ⟨0, by omega, rfl, Lib.hid (R10.of9 H9.out)⟩
        case round =>
          obtain ⟨t, ht, rfl, H10⟩ := hrel
          by_cases h64 : t < 64
          · have h64' : (t : Int) < 64 := by omega
            have t0 : (0 : Int) ≤ (t : Int) := by omega
            obtain ⟨v0, v1, v2, v3, v4, v5, v6, v7, -⟩ := H10.out.eight
            have HNX := Lib.hid (show vT (wsT L 64) s (t + 1) = roundV (vT (wsT L 64) s t) (kC.getD t 0) ((wsT L 64).getD t 0) from rfl)
            obtain ⟨kt, hkt⟩ : ∃ kt, kC.getD t 0 = kt := ⟨_, rfl⟩
            obtain ⟨wt, hwt⟩ : ∃ wt, (wsT L 64).getD t 0 = wt := ⟨_, rfl⟩
            obtain ⟨V, hVV⟩ : ∃ V, vT (wsT L 64) s t = V := ⟨_, rfl⟩
            have HKT := Lib.hid hkt
            have HWT := Lib.hid hwt
            have HVV := Lib.hid hVV
            rw [hVV] at v0 v1 v2 v3 v4 v5 v6 v7 HNX
            rw [hkt, hwt] at HNX
            clear hkt hwt hVV
            go_wp2_with fail
            go_quiet (fail)
            go_wp2_with fail
            generalize hWd : World.drewN wr _ = wd
            have H10d := Lib.hid (show R10 w sb s L n vb kb t wd by rw [← hWd]; exact H10.out.drewN _)
            clear hWd v0 v1 v2 v3 v4 v5 v6 v7 H10
            obtain ⟨v0, v1, v2, v3, v4, v5, v6, v7, -⟩ := H10d.out.eight
            have hk := H10d.out.kAt h64
            have hw := H10d.out.wAt h64
            rw [HVV.out] at v7
            rw [HKT.out] at hk
            rw [HWT.out] at hw
            clear v0 v1 v2 v3 v4 v5 v6
            refine wp_region_quiet_lit (by kernel_rfl) (by kernel_rfl) ?_
            quiet_step (fail)
            quiet_step (fail)
            quiet_step (fail)
            quiet_step (exact Calls.quiet_of_same (turn6 V.e _))
            quiet_step (fail)
            quiet_step (exact Calls.quiet_of_same (turn11 V.e _))
            quiet_step (fail)
            quiet_step (fail)
            quiet_step (exact Calls.quiet_of_same (turn25 V.e _))
            quiet_step (fail)
            quiet_step (fail)
            quiet_step (fail)
            quiet_step (fail)
            quiet_step (fail)
            quiet_step (fail)
            quiet_step (fail)
            quiet_step (fail)
            quiet_step (fail)
            quiet_step (fail)
            quiet_step (fail)
            quiet_step (fail)
            quiet_step (fail)
            quiet_step (fail)
            quiet_step (fail)
            quiet_step (fail)
            quiet_step (fail)
            quiet_step (fail)
            quiet_step (fail)
            quiet_step (fail)
            refine wpQuiet_nil ?_
            intro _ hw'
            obtain ⟨nq, hw''⟩ := hw'
            subst hw''
            have HX := Lib.hid (rx_int V kt wt)
            have HY := Lib.hid (ry_int V)
            generalize hWe : World.drewN wd _ = we
            rw [HX.out]
            simp only [max_u, xor_u, and_u, wadd_u, not_u]
            have H10e := Lib.hid (show R10 w sb s L n vb kb t we by rw [← hWe]; exact H10d.out.drewN _)
            clear hWe v7 hk hw H10d HX
            go_wp2_with fail
            refine (turn2 V.a _).mono ?_
            rintro e w' ⟨rfl, rfl⟩
            go_wp2_with fail
            refine (turn13 V.a _).mono ?_
            rintro e w' ⟨rfl, rfl⟩
            go_wp2_with fail
            refine (turn22 V.a _).mono ?_
            rintro e w' ⟨rfl, rfl⟩
            obtain ⟨v0, v1, v2, v3, v4, v5, v6, v7, f0, f1, f2, f3, f4, f5, f6, f7⟩ := H10e.out.eight
            rw [HVV.out] at v0 v1 v2 v3 v4 v5 v6 v7
            obtain ⟨X, hX⟩ : ∃ X, rx V kt wt = X := ⟨_, rfl⟩
            rw [hX]
            have HXX := Lib.hid hX
            clear hX
            have HS1 := Lib.hid (show ((X.toNat : Int) + (bits .xor .u32 (bits .xor .u32 ((rot V.a 2).toNat : Int) ((rot V.a 13).toNat : Int)) ((rot V.a 22).toNat : Int) + bits .xor .u32 (bits .xor .u32 (bits .and .u32 (V.a.toNat : Int) (V.b.toNat : Int)) (bits .and .u32 (V.a.toNat : Int) (V.c.toNat : Int))) (bits .and .u32 (V.b.toNat : Int) (V.c.toNat : Int)))) % (4294967296 : Int) = ((X + ry V).toNat : Int) by
              rw [← add_u, ← HY.out]
              omega)
            have HS2 := Lib.hid (add_u V.d X)
            have HNEW := Lib.hid (R10.next (v' := ⟨X + ry V, V.a, V.b, V.c, V.d + X, V.e, V.f, V.g⟩) H10e.out (by rw [HNX.out, ← HXX.out]; rfl) hsl (set8_turn _ _ (uw (X + ry V)) (uw V.a) (uw V.b) (uw V.c) (uw (V.d + X)) (uw V.e) (uw V.f) (uw V.g)) (set8 H10e.out.v (uw (X + ry V)) (uw V.a) (uw V.b) (uw V.c) (uw (V.d + X)) (uw V.e) (uw V.f) (uw V.g)))
            go_wp2
            rw [HS1.out, HS2.out]
            refine ⟨?_, by simp [intOf]; omega⟩
            refine ⟨_, _, _, _, _, _, _, _, _, .int .i64 ((t : Int) + 1), _, _, _, _, _, _, _, _, _, _, _, _, _, _, _, _, _, _, _, _, _, _, _, _, _, _, _, _, _, _, _, _, _, _, _, _, _, _, _, _, _, _, _, _, _, _, _, _, _, _, _, _, _, _, _, _, _, _, _, _, _, _, _, _, _, _, _, _, _, _, _, _, _, _, _, _, _, ⟨t + 1, by omega, by go_num, HNEW⟩, rfl⟩
          · have hte : t = 64 := by omega
            subst hte
            have HVV := Lib.hid (show addV s (vT (wsT L 64) s 64) = blockF s L from rfl)
            have H11 := Lib.hid (R11.of10 hsl H10.out)
            clear H10
            obtain ⟨V, hVV⟩ : ∃ V, vT (wsT L 64) s 64 = V := ⟨_, rfl⟩
            rw [hVV] at HVV H11
            clear hVV
            go_wp2_with fail
            go_loopw [19, 153] (fun v19 v153 wr => ∃ t : Nat, t ≤ 8 ∧ v153 = .int .i64 t ∧ Hid (R11 w sb s V L n vb t wr)) (fun _ v153 _ => 8 - (intOf v153).toNat)
            case atStart => exact ⟨0, by omega, rfl, H11⟩
            case round =>
              clear H11
              obtain ⟨t, ht, rfl, H11⟩ := hrel
              by_cases h8 : t < 8
              · have h8' : (t : Int) < 8 := by omega
                have t0 : (0 : Int) ≤ (t : Int) := by omega
                obtain ⟨x, hx, hsx, hfx⟩ := H11.out.sAt h8
                obtain ⟨y, hy, hvy⟩ := H11.out.vAt h8
                have HADD := Lib.hid (add_u x y)
                have HADW := Lib.hid (wadd_u x y)
                have HNX := Lib.hid (H11.out.next h8 hx hy)
                clear hx hy
                go_wp2_with fail
                refine wp_region_still_tail 13 (by kernel_rfl) (by kernel_rfl) ?_
                simp only [List.take_succ_cons, List.take_zero, List.drop_succ_cons, List.drop_zero]
                still_step
                still_step
                still_step
                still_step
                still_step
                still_step
                still_step
                still_step
                still_step
                still_step
                still_step
                still_step
                still_step
                refine wpStill_nil ?_
                change wpList _ _ _ _ _ wr.drew
                first | rw [HADW.out] | rw [HADD.out]
                go_wp2
                refine ⟨?_, by simp [intOf]; omega⟩
                refine ⟨_, .int .i64 ((t : Int) + 1), _, _, _, _, _, _, _, _, _, _, _, _, _, _, _, _, ⟨t + 1, by omega, by go_num, HNX⟩, rfl⟩
              · have hte : t = 8 := by omega
                subst hte
                have hfin := H11.out.fin
                rw [HVV.out] at hfin
                go_wp2
                refine bodyPost_end (results_none rfl _ _ _) rfl ?_
                exact ⟨rfl, hfin⟩
end Go.Proofs.YthgjhfcafdepcaaGreatDoor.Sh

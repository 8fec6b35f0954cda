/-
  An argument of type []byte, opened; the library's table out of the row's condition.
-/
import Derived.Test.YteaapekkoahilaaDoorRows
import Derived.Test.YteaapekkoahilaaDoorNumI
import Derived.WalkKit
import Derived.ProofKit
import Derived.OpenShut
import Derived.ChangeOld
import Derived.ChangeArms
import Derived.LaidMore
import Derived.Stop.Joined
import Derived.Stop.LaidErr
import Derived.Lib.LaidTab
import Derived.SizedLaws
namespace Go.Proofs.YteaapekkoahilaaDoor.OpenBs
open Go.ChangeShapes Go.WideShapes Go.ChangeAt Go.RowKit
open Go.Proofs.YteaapekkoahilaaDoor.Nu Go.Proofs.YteaapekkoahilaaDoor.S01
def laidL : List (String × DataW Unit) := [("math/bits.deBruijn32tab", Rows.laid_math_bits_deBruijn32tab), ("math/bits.deBruijn64tab", Rows.laid_math_bits_deBruijn64tab), ("internal/strconv.uint64pow10", Rows.laid_internal_strconv_uint64pow10)]
theorem door_met (os : Os) (args : Array Value) : laidMetH Tryd.prog laidL ((World.doorLaid Tryd.prog 400 os).forCall (fun _ _ => 0) ⟨#[], args, []⟩).memory :=
  laidMetH_of_parts3 (fuel := 30) (laidMet_of_run' 30 (by kernel_rfl) (by kernel_rfl)) (by kernel_rfl) (by kernel_rfl)
theorem tab_of_laid {W : World} (h : laidMetH Tryd.prog laidL W) : Tab W := by
  rw [MakeChecks.laidMetH_plain _ _ _ (by kernel_rfl)] at h
  have h2 : laidMet Tryd.prog [("internal/strconv.uint64pow10", Lib.tabData .u64 Lib.pow10Tab)] W := h.tail.tail
  exact Lib.tabIs_of_head (t := 84) (e := 52) (n := 20) (g := 2) (by kernel_rfl) (by kernel_rfl) Tryd.underlying84 Tryd.underlying52 (by kernel_rfl) (by kernel_rfl) h2
theorem i64_of {x : Int} (h : (Lit.int .i64 x).wf = true) : -9223372036854775808 ≤ x ∧ x ≤ 9223372036854775807 := by
  have h1 : IntKind.i64.min = -9223372036854775808 := rfl
  have h2 : IntKind.i64.max = 9223372036854775807 := rfl
  simp only [Lit.wf, Bool.and_eq_true, decide_eq_true_eq] at h
  omega
theorem u8_of {x : Int} (h : (Lit.int .u8 x).wf = true) : 0 ≤ x ∧ x ≤ 255 := by
  have h1 : IntKind.u8.min = 0 := rfl
  have h2 : IntKind.u8.max = 255 := rfl
  simp only [Lit.wf, Bool.and_eq_true, decide_eq_true_eq] at h
  omega
variable {H : Type} {enc : TypeId × Value → H}
theorem open_bs {W : World} {r : Reach} {b0 : Nat} {v : Value} {d : DataW H} {p : List MemPlace} (hv : Value.okWide Tryd.prog W r b0 22 v) (h : DataW.Trod enc Tryd.prog W 0 (fun _ => true) true 22 v d p) :
    ∃ (A : Option Addr) (n c : Nat) (l : List UInt8), v = .slice A n c ∧ BRead W A n l ∧ (A = none → n = 0) ∧ (n = 0 ∨ ∃ es sp, d = .slice es sp ∧ es.length = n) := by
  obtain ⟨A, n, c, rfl⟩ := okWide_slice Tryd.underlying22 hv
  obtain ⟨fuel, hf⟩ := h
  rcases open_ints Tryd.underlying22 Tryd.underlying5 (by kernel_rfl) hf with ⟨hcs, _⟩ | ⟨a, len, cap, zs, hcs, _, hl, hm, hz, hx, hcell, hwz⟩
  · simp [Value.cells] at hcs
    obtain ⟨rfl, rfl, rfl⟩ := hcs
    exact ⟨none, 0, 0, [], rfl, ⟨rfl, by omega, (fun h => by omega)⟩, (fun _ => rfl), .inl rfl⟩
  · simp [Value.cells] at hcs
    obtain ⟨rfl, rfl, rfl⟩ := hcs
    simp only [Prod.mk.injEq] at hx
    obtain ⟨rfl, _⟩ := hx
    simp only [if_true] at hz
    have hmx : maxLen = 9223372036854775807 := by unfold maxLen; rfl
    have hlen : ((zs.take n).map fun z => UInt8.ofNat z.toNat).length = n := by simp; omega
    refine ⟨some a, n, c, (zs.take n).map fun z => UInt8.ofNat z.toNat, rfl, ⟨hlen, by omega, fun _ => ⟨a, rfl, fun i hi => ?_⟩⟩, (fun h => by cases h), .inr ⟨_, _, rfl, ?_⟩⟩
    · have hiz : i < zs.length := by omega
      rw [hcell i hiz]
      have hw := u8_of (hwz zs[i] (List.getElem_mem hiz))
      have e1 : zs.getD i 0 = zs[i] := by simp [List.getD_eq_getElem?_getD, hiz]
      have e2 : ((zs.take n).map fun z => UInt8.ofNat z.toNat).getD i 0 = UInt8.ofNat (zs[i]).toNat := by
        simp [List.getD_eq_getElem?_getD, hi, hiz]
      unfold by'
      rw [e1, e2, UInt8.toNat_ofNat']
      congr 2
      omega
    · simp [lits]; omega
theorem sized_bs {ts : List TypeId} {ds : List (DataW H)} (h : (DataW.weightsEach Tryd.prog ts ds).all (· ≤ reachBytes) = true) {j : Nat} {d : DataW H} {n : Nat} (ht : ts[j]? = some 22) (hd : ds[j]? = some d) (hs : n = 0 ∨ ∃ es sp, d = .slice es sp ∧ es.length = n) : n ≤ 140737488351232 := by
  rcases hs with rfl | ⟨es, sp, rfl, rfl⟩
  · omega
  · have z := sized_slice h ht hd Tryd.underlying22
    have hb : Tryd.prog.bytesOf 5 = 1 := by kernel_rfl
    rw [hb] at z
    have hr : reachBytes = 140737488351232 := by decide
    omega
end Go.Proofs.YteaapekkoahilaaDoor.OpenBs

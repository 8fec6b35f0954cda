/-
  An argument of type []conciergelaw17.Op, opened.
-/
import Derived.Test.YtfmekhebdpjdkaaRows
import Derived.Test.YtfmekhebdpjdkaaCacheA
import Derived.Deep.Slices
import Derived.Deep.SlicePairs
import Derived.WalkKit
import Derived.ProofKit
import Derived.OpenShut
import Derived.ChangeOld
import Derived.ChangeArms
import Derived.SizedLaws
namespace Go.Proofs.Ytfmekhebdpjdkaa.C
open Go.ChangeShapes Go.WideShapes Go.ChangeAt Go.RowKit Go.Deep
structure OpV where
  kind : Int
  tenant : ByteArray
  rev : Int
  question : ByteArray
  yes : Bool
def OpV.none : OpV := ⟨0, ByteArray.empty, 0, ByteArray.empty, false⟩
def ORead (w : World) (A : Option Addr) (n : Nat) (L : List OpV) : Prop :=
  L.length = n ∧ ∀ i, i < n → ∃ a, A = some a ∧ w.cell? (a.add (i * 5)) = some (.int .i64 (L.getD i OpV.none).kind) ∧ w.cell? (a.add (i * 5 + 1)) = some (.string (L.getD i OpV.none).tenant) ∧ w.cell? (a.add (i * 5 + 2)) = some (.int .i64 (L.getD i OpV.none).rev) ∧
    w.cell? (a.add (i * 5 + 3)) = some (.string (L.getD i OpV.none).question) ∧ w.cell? (a.add (i * 5 + 4)) = some (.bool (L.getD i OpV.none).yes) ∧ (L.getD i OpV.none).tenant.size ≤ maxLen ∧ (L.getD i OpV.none).question.size ≤ maxLen
theorem ORead.below {w w' : World} {A : Option Addr} {n : Nat} {L : List OpV} (h : ORead w A n L) (hb : Below w.heap.size w w') : ORead w' A n L := by
  refine ⟨h.1, fun i hi => ?_⟩
  obtain ⟨a, h0, h1, h2, h3, h4, h5, h6⟩ := h.2 i hi
  exact ⟨a, h0, B.keepC hb h1, B.keepC hb h2, B.keepC hb h3, B.keepC hb h4, B.keepC hb h5, h6⟩
variable {H : Type} {enc : TypeId × Value → H}
theorem trod_bool_cell {w : World} {base : Nat} {spare : Nat → Bool} {held : Bool} {n : Nat} {v : Value} {x : DataW H × List MemPlace} (h : DataW.trod enc Try.prog w base spare held n 4 [v] = some x) : ∃ b, v = .bool b := by
  obtain ⟨b, h1, _⟩ := DataW.trod_bool Try.underlying4 h
  exact ⟨b, by simpa using h1⟩
theorem open_ops {W : World} {r : Reach} {b0 : Nat} {v : Value} {d : DataW H} {p : List MemPlace} (hv : Value.okWide Try.prog W r b0 22 v) (h : DataW.Trod enc Try.prog W 0 (fun _ => true) true 22 v d p) :
    ∃ (A : Option Addr) (n c : Nat) (L : List OpV), v = .slice A n c ∧ ORead W A n L ∧ n ≤ maxLen := by
  obtain ⟨A, n, c, rfl⟩ := okWide_slice Try.underlying22 hv
  obtain ⟨fuel, hf⟩ := h
  have hC : Try.prog.cellsOf 31 = 5 := by kernel_rfl
  have hS : Try.prog.cellsOf 9 = 1 := by kernel_rfl
  have hI : Try.prog.cellsOf 3 = 1 := by kernel_rfl
  have hB : Try.prog.cellsOf 4 = 1 := by kernel_rfl
  rcases open_slice Try.underlying22 hf with ⟨hcs, _⟩ | ⟨a, len, cap, m, k, D, Pl, hcs, _, hl, hm, hmm, hx, hcell⟩
  · simp [Value.cells] at hcs
    obtain ⟨rfl, rfl, rfl⟩ := hcs
    exact ⟨none, 0, 0, [], rfl, ⟨rfl, by omega⟩, Nat.zero_le _⟩
  · simp [Value.cells] at hcs
    obtain ⟨rfl, rfl, rfl⟩ := hcs
    simp only [if_true] at hmm
    have each : ∀ i, i < n → ∃ o : OpV, W.cell? (a.add (i * 5)) = some (.int .i64 o.kind) ∧ W.cell? (a.add (i * 5 + 1)) = some (.string o.tenant) ∧ W.cell? (a.add (i * 5 + 2)) = some (.int .i64 o.rev) ∧
        W.cell? (a.add (i * 5 + 3)) = some (.string o.question) ∧ W.cell? (a.add (i * 5 + 4)) = some (.bool o.yes) ∧ o.tenant.size ≤ maxLen ∧ o.question.size ≤ maxLen := by
      intro i hi
      obtain ⟨cs', h1, h2⟩ := hcell i (by omega)
      rw [hC] at h1
      obtain ⟨_, hlen, hc⟩ := World.cells?_some h1
      obtain ⟨xs, k', hk, hxy, _, hxl, hf⟩ := DataW.trod_struct Try.underlying31 h2
      match xs, hxl, cs', hlen with
      | [y0, y1, y2, y3, y4], _, [v0, v1, v2, v3, v4], _ =>
        have g0 := hf 0 _ rfl
        have g1 := hf 1 _ rfl
        have g2 := hf 2 _ rfl
        have g3 := hf 3 _ rfl
        have g4 := hf 4 _ rfl
        simp [hS, hI, hB] at g0 g1 g2 g3 g4
        have e0 := hc 0 (by omega)
        have e1 := hc 1 (by omega)
        have e2 := hc 2 (by omega)
        have e3 := hc 3 (by omega)
        have e4 := hc 4 (by omega)
        rw [add_add] at e0 e1 e2 e3 e4
        obtain ⟨a0, z0, _⟩ := DataW.trod_int Try.underlying3 g0
        obtain ⟨a1, z1, _, s1⟩ := DataW.trod_string Try.underlying9 g1
        obtain ⟨a2, z2, _⟩ := DataW.trod_int Try.underlying3 g2
        obtain ⟨a3, z3, _, s3⟩ := DataW.trod_string Try.underlying9 g3
        obtain ⟨a4, z4⟩ := trod_bool_cell g4
        simp at z0 z1 z2 z3
        subst z0 z1 z2 z3 z4
        exact ⟨⟨a0, a1, a2, a3, a4⟩, by simpa using e0, by simpa using e1, by simpa using e2, by simpa using e3, by simpa using e4, s1, s3⟩
    have : Inhabited OpV := ⟨OpV.none⟩
    obtain ⟨q, hq⟩ := choose_lt each
    refine ⟨some a, n, c, (List.range n).map q, rfl, ⟨by simp, fun i hi => ⟨a, rfl, ?_⟩⟩, by omega⟩
    have e : ((List.range n).map q).getD i OpV.none = q i := by simp [List.getD_eq_getElem?_getD, hi]
    rw [e]
    exact hq i hi
end Go.Proofs.Ytfmekhebdpjdkaa.C

/-
  An argument of type api.Tuple, opened to its six texts.
-/
import Derived.Test.YtfdhjnbmmckknaaRows
import Derived.Test.YtfdhjnbmmckknaaSpec10
import Derived.WalkKit
import Derived.ProofKit
import Derived.OpenShut
import Derived.ChangeOld
import Derived.ChangeArms
namespace Go.Proofs.Ytfdhjnbmmckknaa.OpenTup
open Go.ChangeShapes Go.WideShapes Go.ChangeAt Go.RowKit
open Go.Proofs.Ytfdhjnbmmckknaa.S10 (Tup)
variable {H : Type} {enc : TypeId × Value → H} {w : World} {base : Nat} {spare : Nat → Bool} {held : Bool}
theorem open_tup {r : Reach} {b0 : Nat} {v : Value} {d : DataW H} {p : List MemPlace} (hv : Value.okWide Try.prog w r b0 50 v) (h : DataW.Trod enc Try.prog w base spare held 50 v d p) :
    ∃ x : Tup, v = .agg #[.string x.t, .string x.i, .string x.r, .string x.st, .string x.si, .string x.sr] ∧ x.t.size ≤ 9223372036854775807 ∧ x.i.size ≤ 9223372036854775807 ∧ x.r.size ≤ 9223372036854775807 ∧ x.st.size ≤ 9223372036854775807 ∧ x.si.size ≤ 9223372036854775807 ∧ x.sr.size ≤ 9223372036854775807 := by
  obtain ⟨cs, rfl, hsz⟩ := okWide_struct Try.underlying50 hv
  have hC : Try.prog.cellsOf 50 = 6 := by kernel_rfl
  have hC1 : Try.prog.cellsOf 42 = 2 := by kernel_rfl
  have hC2 : Try.prog.cellsOf 46 = 3 := by kernel_rfl
  have hC3 : Try.prog.cellsOf 9 = 1 := by kernel_rfl
  obtain ⟨l⟩ := cs
  match l, hsz.trans hC with
  | [c0, c1, c2, c3, c4, c5], _ =>
    obtain ⟨fuel, hf⟩ := h
    obtain ⟨xs, n, _, _, _, hlen, hg⟩ := DataW.trod_struct Try.underlying50 hf
    have g0 := hg 0 _ rfl
    have g1 := hg 1 _ rfl
    have g2 := hg 2 _ rfl
    match xs, hlen with
    | [y0, y1, y2], _ =>
      simp [Value.cells, hC1, hC2, hC3] at g0 g1 g2
      obtain ⟨a1, e1, _, s1⟩ := DataW.trod_string Try.underlying9 g1
      obtain ⟨ys, m, _, _, _, hlen2, hh⟩ := DataW.trod_struct Try.underlying42 g0
      obtain ⟨zs, m2, _, _, _, hlen3, hk⟩ := DataW.trod_struct Try.underlying46 g2
      have k0 := hh 0 _ rfl
      have k1 := hh 1 _ rfl
      have l0 := hk 0 _ rfl
      have l1 := hk 1 _ rfl
      match ys, hlen2 with
      | [u0, u1], _ =>
        match zs, hlen3 with
        | [v0, v1], _ =>
          simp [hC1, hC3] at k0 k1 l0 l1
          obtain ⟨a2, e2, _, s2⟩ := DataW.trod_string Try.underlying9 k0
          obtain ⟨a3, e3, _, s3⟩ := DataW.trod_string Try.underlying9 k1
          obtain ⟨a4, e4, _, s4⟩ := DataW.trod_string Try.underlying9 l1
          obtain ⟨ts, m3, _, _, _, hlen4, hm⟩ := DataW.trod_struct Try.underlying42 l0
          have m0 := hm 0 _ rfl
          have m1 := hm 1 _ rfl
          match ts, hlen4 with
          | [t0, t1], _ =>
            simp [hC3] at m0 m1
            obtain ⟨a5, e5, _, s5⟩ := DataW.trod_string Try.underlying9 m0
            obtain ⟨a6, e6, _, s6⟩ := DataW.trod_string Try.underlying9 m1
            simp only [List.cons.injEq, and_true] at e1 e2 e3 e4 e5 e6
            subst e1 e2 e3 e4 e5 e6
            exact ⟨⟨a2, a3, a1, a5, a6, a4⟩, rfl, s2, s3, s1, s5, s6, s4⟩
end Go.Proofs.Ytfdhjnbmmckknaa.OpenTup

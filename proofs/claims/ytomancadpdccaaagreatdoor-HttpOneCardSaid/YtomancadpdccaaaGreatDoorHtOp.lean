/-
  HTTP: bytes, requests that came in: opened to the plain words.
-/
import Derived.Test.YtomancadpdccaaaGreatDoorHtS
import Derived.ProofKit
import Derived.OpenShut
import Derived.ChangeOld
import Derived.ChangeArms
import Derived.Deep.Slices
namespace Go.Proofs.YtomancadpdccaaaGreatDoor.Ht
open Go.RowKit Go.Proofs.YtomancadpdccaaaGreatDoor.B Go.ChangeShapes Go.WideShapes
open Go.Proofs.YtomancadpdccaaaGreatDoor.M hiding Bs
set_option linter.unusedVariables false
set_option linter.unusedSimpArgs false

variable {H : Type} {enc : TypeId × Value → H} {w : World} {base : Nat} {spare : Nat → Bool} {held : Bool}
abbrev Ev : Nat → Prop := fun _ => True
theorem str_vs (s : ByteArray) : Value.string s = vs s.data.toList := by
  obtain ⟨⟨l⟩⟩ := s
  rfl
theorem str_len {s : ByteArray} (h : s.size ≤ maxLen) : s.data.toList.length ≤ 9223372036854775807 := by
  have hmx : maxLen = 9223372036854775807 := by unfold maxLen; rfl
  obtain ⟨⟨l⟩⟩ := s
  rw [hmx] at h
  exact h
/-- a slice that came in, opened: its elements by their own law. -/
theorem open_sl {α : Type} {P : Program} {t e : TypeId} {size n : Nat} {R : α → List Value → Prop} {Q : α → Prop} (ht : P.underlying t = some (.slice e)) (hc : P.cellsOf e = size) {cs : List Value} {x : DataW H × List MemPlace}
    (h : DataW.trod enc P w base spare held (n + 1) t cs = some x) (he : ∀ cs y, DataW.trod enc P w base spare held n e cs = some y → ∃ a, R a cs ∧ Q a) :
    ∃ A len cap xs, cs = [.slice A len cap] ∧ SlV w Ev size R xs A len ∧ len ≤ cap ∧ ∀ x ∈ xs, Q x := by
  have hmx : maxLen = 9223372036854775807 := by unfold maxLen; rfl
  rcases DataW.trod_slice ht h with ⟨rfl, -⟩ | ⟨a, len, cap, elems, rest, m, hm, rfl, -, hb, hl, hmax, hlen, hel, -, -⟩
  · exact ⟨none, 0, 0, [], rfl, ⟨rfl, by omega, fun k x hx => by simp at hx⟩, Nat.le_refl _, fun x hx => by simp at hx⟩
  · obtain rfl : m = n := by omega
    have each : ∀ i : Fin len, ∃ q : α × List Value, w.cells? base (a.add (i.val * size)) size = some q.2 ∧ R q.1 q.2 ∧ Q q.1 := by
      intro i
      have h1 := hel i.val i.2
      rw [List.getElem?_eq_getElem (by omega), hc, Option.bind_eq_some_iff] at h1
      obtain ⟨cs', h2, h3⟩ := h1
      obtain ⟨b, h4, h5⟩ := he _ _ h3
      exact ⟨(b, cs'), h2, h4, h5⟩
    have hf := fun i => Classical.choose_spec (each i)
    refine ⟨some a, len, cap, List.ofFn (fun i => (Classical.choose (each i)).1), rfl, ⟨by simp, by omega, fun k x hx => ?_⟩, by omega, fun x hx => ?_⟩
    · rw [List.getElem?_ofFn] at hx
      split at hx
      · rename_i hk
        cases hx
        obtain ⟨h1, h2, h3⟩ := hf ⟨k, hk⟩
        obtain ⟨h4, h5, h6⟩ := World.cells?_some h1
        refine ⟨a, _, _, rfl, rfl, trivial, h5, fun j u hu => ?_, h2⟩
        have hj : j < size := by
          rw [← h5]
          exact (List.getElem?_eq_some_iff.1 hu).1
        rw [h6 j hj]
        exact hu
      · cases hx
    · rw [List.mem_ofFn] at hx
      obtain ⟨i, rfl⟩ := hx
      exact (hf i).2.2
theorem open_str {n : Nat} {cs : List Value} {x : DataW H × List MemPlace} (h : DataW.trod enc Tryz.prog w base spare held n 9 cs = some x) : ∃ s, cs = [vs s] ∧ s.length ≤ 9223372036854775807 := by
  obtain ⟨s, rfl, -, hs⟩ := DataW.trod_string Tryz.underlying9 h
  exact ⟨s.data.toList, by rw [str_vs], str_len hs⟩
theorem one_val {u v : Value} (h : [u] = [v]) : u = v := by simpa using h
theorem u8_of {x : Int} (h : (Lit.int .u8 x).wf = true) : 0 ≤ x ∧ x ≤ 255 := by
  have h1 : IntKind.u8.min = 0 := rfl
  have h2 : IntKind.u8.max = 255 := rfl
  simp only [Lit.wf, Bool.and_eq_true, decide_eq_true_eq] at h
  omega
theorem cOf_u8 : Tryz.prog.cellsOf 5 = 1 := by kernel_rfl
theorem get_some {α : Type} {l : List α} {n k : Nat} (h : l.length = n) (hk : k < n) : ∃ y, l[k]? = some y := ⟨l[k]'(by omega), List.getElem?_eq_getElem (by omega)⟩
def ByR1 (b : UInt8) (cs : List Value) : Prop := cs = [.int .u8 (b.toNat : Int)]
theorem open_by {n : Nat} {cs : List Value} {y : DataW H × List MemPlace} (hy : DataW.trod enc Tryz.prog w base spare held n 5 cs = some y) : ∃ b : UInt8, ByR1 b cs ∧ True := by
  obtain ⟨z, h0, -, hz⟩ := DataW.trod_int Tryz.underlying5 hy
  have hz := u8_of hz
  refine ⟨UInt8.ofNat z.toNat, ?_, trivial⟩
  unfold ByR1
  rw [h0, UInt8.toNat_ofNat']
  have e : ((z.toNat % 2 ^ 8 : Nat) : Int) = z := by omega
  rw [e]
theorem rd_of {w : World} {F : Nat → Prop} {l : Bs} {A : Option Addr} {n : Nat} (h : SlV w F 1 ByR1 l A n) : Nu.BRead w A n l := by
  refine ⟨h.1, by have := h.2.1; omega, fun hp => ?_⟩
  have hl := h.1
  obtain ⟨a, b, cs, e1, -⟩ := h.2.2 0 _ (List.getElem?_eq_getElem (by omega))
  refine ⟨a, e1, fun i hi => ?_⟩
  obtain ⟨a', b, cs, e1', e2, e3, e4, e5, e6⟩ := h.2.2 i _ (List.getElem?_eq_getElem (by omega))
  rw [e1] at e1'
  cases e1'
  unfold ByR1 at e6
  subst e6
  have := e5 0 _ rfl
  rw [M.add_zero, ← e2, Nat.mul_one] at this
  rw [this]
  show some (Value.int .u8 ((l[i]).toNat : Int)) = some (Value.int .u8 ((l.getD i 0).toNat : Int))
  rw [List.getD_eq_getElem?_getD, List.getElem?_eq_getElem (by omega)]
  rfl
set_option maxRecDepth 100000 in
theorem open_rd {n : Nat} {cs : List Value} {x : DataW H × List MemPlace} (h : DataW.trod enc Tryz.prog w base spare held (n + 1) 22 cs = some x) : ∃ A m c l, cs = [.slice A m c] ∧ Nu.BRead w A m l ∧ m ≤ c := by
  obtain ⟨A, m, c, l, hcs, hs, hc, -⟩ := open_sl (R := ByR1) (Q := fun _ => True) Tryz.underlying22 cOf_u8 h (fun cs y hy => open_by hy)
  exact ⟨A, m, c, l, hcs, rd_of hs, hc⟩
set_option maxRecDepth 100000 in
/-- bytes that came in. -/
theorem open_bytes {r : Reach} {b0 : Nat} {v : Value} {d : DataW H} {p : List MemPlace} (hv : Value.okWide Tryz.prog w r b0 22 v) (h : DataW.Trod enc Tryz.prog w base spare held 22 v d p) :
    ∃ (A : Option Addr) (n c : Nat) (l : Bs), v = .slice A n c ∧ Nu.BRead w A n l ∧ n ≤ c := by
  obtain ⟨A, n, c, rfl⟩ := okWide_slice Tryz.underlying22 hv
  obtain ⟨fuel, hf⟩ := h
  cases fuel with
  | zero => simp [DataW.trod] at hf
  | succ m =>
    obtain ⟨A', n', c', l, hcs, hrd, hc⟩ := open_rd hf
    have hcs : Value.slice A n c = .slice A' n' c' := by simpa [Value.cells] using hcs
    simp only [Value.slice.injEq] at hcs
    obtain ⟨rfl, rfl, rfl⟩ := hcs
    exact ⟨A, n, c, l, rfl, hrd, hc⟩
end Go.Proofs.YtomancadpdccaaaGreatDoor.Ht

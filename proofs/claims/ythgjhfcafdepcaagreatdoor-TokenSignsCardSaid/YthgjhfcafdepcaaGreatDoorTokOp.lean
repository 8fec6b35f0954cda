/-
  Tokens: keys, claims, bytes that came in: opened to the plain words.
-/
import Derived.Test.YthgjhfcafdepcaaGreatDoorTokK
import Derived.ProofKit
import Derived.OpenShut
import Derived.ChangeOld
import Derived.ChangeArms
import Derived.Deep.Slices
namespace Go.Proofs.YthgjhfcafdepcaaGreatDoor.Tk
open Go.RowKit Go.Proofs.YthgjhfcafdepcaaGreatDoor.B Go.ChangeShapes Go.WideShapes
open Go.Proofs.YthgjhfcafdepcaaGreatDoor.M
open Go.Proofs.YthgjhfcafdepcaaGreatDoor.Sh (RdB)
set_option linter.unusedVariables false
set_option linter.unusedSimpArgs false

variable {H : Type} {enc : TypeId × Value → H} {w : World} {base : Nat} {spare : Nat → Bool} {held : Bool}
abbrev Ev : Nat → Prop := fun _ => True
theorem str_vs (s : ByteArray) : Value.string s = vs s.data.toList := by
  obtain ⟨⟨l⟩⟩ := s
  rfl
theorem str_len {s : ByteArray} (h : s.size ≤ maxLen) : s.data.toList.length ≤ 9223372036854775807 := by
  have hmx : maxLen = 9223372036854775807 := by unfold maxLen; rfl
  obtain ⟨⟨l⟩⟩ := s
  rw [hmx] at h
  exact h
/-- a slice that came in, opened: its elements by their own law. -/
theorem open_sl {α : Type} {P : Program} {t e : TypeId} {size n : Nat} {R : α → List Value → Prop} {Q : α → Prop} (ht : P.underlying t = some (.slice e)) (hc : P.cellsOf e = size) {cs : List Value} {x : DataW H × List MemPlace}
    (h : DataW.trod enc P w base spare held (n + 1) t cs = some x) (he : ∀ cs y, DataW.trod enc P w base spare held n e cs = some y → ∃ a, R a cs ∧ Q a) :
    ∃ A len cap xs, cs = [.slice A len cap] ∧ SlV w Ev size R xs A len ∧ len ≤ cap ∧ ∀ x ∈ xs, Q x := by
  have hmx : maxLen = 9223372036854775807 := by unfold maxLen; rfl
  rcases DataW.trod_slice ht h with ⟨rfl, -⟩ | ⟨a, len, cap, elems, rest, m, hm, rfl, -, hb, hl, hmax, hlen, hel, -, -⟩
  · exact ⟨none, 0, 0, [], rfl, ⟨rfl, by omega, fun k x hx => by simp at hx⟩, Nat.le_refl _, fun x hx => by simp at hx⟩
  · obtain rfl : m = n := by omega
    have each : ∀ i : Fin len, ∃ q : α × List Value, w.cells? base (a.add (i.val * size)) size = some q.2 ∧ R q.1 q.2 ∧ Q q.1 := by
      intro i
      have h1 := hel i.val i.2
      rw [List.getElem?_eq_getElem (by omega), hc, Option.bind_eq_some_iff] at h1
      obtain ⟨cs', h2, h3⟩ := h1
      obtain ⟨b, h4, h5⟩ := he _ _ h3
      exact ⟨(b, cs'), h2, h4, h5⟩
    have hf := fun i => Classical.choose_spec (each i)
    refine ⟨some a, len, cap, List.ofFn (fun i => (Classical.choose (each i)).1), rfl, ⟨by simp, by omega, fun k x hx => ?_⟩, by omega, fun x hx => ?_⟩
    · rw [List.getElem?_ofFn] at hx
      split at hx
      · rename_i hk
        cases hx
        obtain ⟨h1, h2, h3⟩ := hf ⟨k, hk⟩
        obtain ⟨h4, h5, h6⟩ := World.cells?_some h1
        refine ⟨a, _, _, rfl, rfl, trivial, h5, fun j u hu => ?_, h2⟩
        have hj : j < size := by
          rw [← h5]
          exact (List.getElem?_eq_some_iff.1 hu).1
        rw [h6 j hj]
        exact hu
      · cases hx
    · rw [List.mem_ofFn] at hx
      obtain ⟨i, rfl⟩ := hx
      exact (hf i).2.2
theorem open_str {n : Nat} {cs : List Value} {x : DataW H × List MemPlace} (h : DataW.trod enc Tryz.prog w base spare held n 9 cs = some x) : ∃ s, cs = [vs s] ∧ s.length ≤ 9223372036854775807 := by
  obtain ⟨s, rfl, -, hs⟩ := DataW.trod_string Tryz.underlying9 h
  exact ⟨s.data.toList, by rw [str_vs], str_len hs⟩
theorem one_val {u v : Value} (h : [u] = [v]) : u = v := by simpa using h
theorem u8_of {x : Int} (h : (Lit.int .u8 x).wf = true) : 0 ≤ x ∧ x ≤ 255 := by
  have h1 : IntKind.u8.min = 0 := rfl
  have h2 : IntKind.u8.max = 255 := rfl
  simp only [Lit.wf, Bool.and_eq_true, decide_eq_true_eq] at h
  omega
theorem cOf_u8 : Tryz.prog.cellsOf 5 = 1 := by kernel_rfl
theorem cOf_key : Tryz.prog.cellsOf 41 = 3 := by kernel_rfl
theorem cOf_string : Tryz.prog.cellsOf 9 = 1 := by kernel_rfl
theorem cOf_int : Tryz.prog.cellsOf 3 = 1 := by kernel_rfl
theorem cOf_bool : Tryz.prog.cellsOf 4 = 1 := by kernel_rfl
theorem cOf_bytes : Tryz.prog.cellsOf 22 = 1 := by kernel_rfl
theorem cOf_obj : Tryz.prog.cellsOf 24 = 2 := by kernel_rfl
theorem cOf_claim : Tryz.prog.cellsOf 26 = 5 := by kernel_rfl
theorem get_some {α : Type} {l : List α} {n k : Nat} (h : l.length = n) (hk : k < n) : ∃ y, l[k]? = some y := ⟨l[k]'(by omega), List.getElem?_eq_getElem (by omega)⟩
def ByR1 (b : UInt8) (cs : List Value) : Prop := cs = [.int .u8 (b.toNat : Int)]
theorem open_by {n : Nat} {cs : List Value} {y : DataW H × List MemPlace} (hy : DataW.trod enc Tryz.prog w base spare held n 5 cs = some y) : ∃ b : UInt8, ByR1 b cs ∧ True := by
  obtain ⟨z, h0, -, hz⟩ := DataW.trod_int Tryz.underlying5 hy
  have hz := u8_of hz
  refine ⟨UInt8.ofNat z.toNat, ?_, trivial⟩
  unfold ByR1
  rw [h0, UInt8.toNat_ofNat']
  have e : ((z.toNat % 2 ^ 8 : Nat) : Int) = z := by omega
  rw [e]
theorem rd_of {w : World} {F : Nat → Prop} {l : Bs} {A : Option Addr} {n : Nat} (h : SlV w F 1 ByR1 l A n) : RdB w F A l := fun i x hx => by
  obtain ⟨a, b, cs, e1, e2, e3, e4, e5, e6⟩ := h.2.2 i x hx
  unfold ByR1 at e6
  subst e6
  have := e5 0 _ rfl
  rw [add_zero, ← e2, Nat.mul_one] at this
  refine ⟨a, e1, ?_, this⟩
  rw [← e2, add_block] at e3
  exact e3
set_option maxRecDepth 100000 in
theorem open_rd {n : Nat} {cs : List Value} {x : DataW H × List MemPlace} (h : DataW.trod enc Tryz.prog w base spare held (n + 1) 22 cs = some x) : ∃ A m c l, cs = [.slice A m c] ∧ RdB w Ev A l ∧ l.length = m ∧ m ≤ c ∧ m ≤ 9223372036854775807 := by
  obtain ⟨A, m, c, l, hcs, hs, hc, -⟩ := open_sl (R := ByR1) (Q := fun _ => True) Tryz.underlying22 cOf_u8 h (fun cs y hy => open_by hy)
  exact ⟨A, m, c, l, hcs, rd_of hs, hs.1, hc, hs.2.1⟩
theorem three_list {l : List Value} (h : l.length = 3) : ∃ a b c, l = [a, b, c] := by
  match l, h with
  | [a, b, c], _ => exact ⟨a, b, c, rfl⟩
theorem two_list {l : List Value} (h : l.length = 2) : ∃ a b, l = [a, b] := by
  match l, h with
  | [a, b], _ => exact ⟨a, b, rfl⟩
theorem five_list {l : List Value} (h : l.length = 5) : ∃ a b c d e, l = [a, b, c, d, e] := by
  match l, h with
  | [a, b, c, d, e], _ => exact ⟨a, b, c, d, e, rfl⟩
set_option maxRecDepth 100000 in
theorem open_key : ∀ (n : Nat) (cs : List Value) (x : DataW H × List MemPlace), DataW.trod enc Tryz.prog w base spare held n 41 cs = some x → ∃ k : Ky, KyR w k cs ∧ True
  | 0, cs, x, h => by simp [DataW.trod] at h
  | n + 1, cs, x, h => by
    obtain ⟨xs, m, hm, -, hlen, hxl, hg⟩ := DataW.trod_struct Tryz.underlying41 h
    obtain rfl : m = n := by omega
    rw [cOf_key] at hlen
    obtain ⟨c0, c1, c2, rfl⟩ := three_list hlen
    have hxl : xs.length = 3 := hxl
    obtain ⟨y0, e0⟩ := get_some (k := 0) hxl (by omega)
    obtain ⟨y1, e1⟩ := get_some (k := 1) hxl (by omega)
    obtain ⟨y2, e2⟩ := get_some (k := 2) hxl (by omega)
    have g0 := hg 0 _ rfl
    have g1 := hg 1 _ rfl
    have g2 := hg 2 _ rfl
    rw [e0] at g0
    rw [e1] at g1
    rw [e2] at g2
    simp [cOf_string, cOf_bytes, cOf_bool] at g0 g1 g2
    obtain ⟨t, h0, ht⟩ := open_str g0
    obtain ⟨b, h2, -⟩ := DataW.trod_bool Tryz.underlying4 g2
    have h0 := one_val h0
    have h2 := one_val h2
    subst h0 h2
    cases m with
    | zero => simp [DataW.trod] at g1
    | succ m =>
      obtain ⟨A, an, ac, l, h1, hrd, hl, hac, -⟩ := open_rd g1
      have h1 := one_val h1
      subst h1
      exact ⟨⟨t, l, b⟩, ⟨A, an, ac, rfl, hl, hac, hrd⟩, trivial⟩
set_option maxRecDepth 100000 in
/-- keys that came in. -/
theorem open_keys {r : Reach} {b0 : Nat} {v : Value} {d : DataW H} {p : List MemPlace} (hv : Value.okWide Tryz.prog w r b0 34 v) (h : DataW.Trod enc Tryz.prog w base spare held 34 v d p) :
    ∃ (A : Option Addr) (n c : Nat) (ks : List Ky), v = .slice A n c ∧ KeysR w ks A n ∧ n ≤ c := by
  obtain ⟨A, n, c, rfl⟩ := okWide_slice Tryz.underlying34 hv
  obtain ⟨fuel, hf⟩ := h
  cases fuel with
  | zero => simp [DataW.trod] at hf
  | succ m =>
    obtain ⟨A', n', c', ks, hcs, hs, hc, -⟩ := open_sl (R := KyR w) (Q := fun _ => True) Tryz.underlying34 cOf_key hf (fun cs y hy => open_key m cs y hy)
    have hcs : Value.slice A n c = .slice A' n' c' := by simpa [Value.cells] using hcs
    simp only [Value.slice.injEq] at hcs
    obtain ⟨rfl, rfl, rfl⟩ := hcs
    exact ⟨A, n, c, ks, rfl, hs, hc⟩
set_option maxRecDepth 100000 in
/-- bytes that came in. -/
theorem open_bytes {r : Reach} {b0 : Nat} {v : Value} {d : DataW H} {p : List MemPlace} (hv : Value.okWide Tryz.prog w r b0 22 v) (h : DataW.Trod enc Tryz.prog w base spare held 22 v d p) :
    ∃ (A : Option Addr) (n c : Nat) (l : Bs), v = .slice A n c ∧ RdB w Ev A l ∧ l.length = n ∧ n ≤ c ∧ n ≤ 9223372036854775807 := by
  obtain ⟨A, n, c, rfl⟩ := okWide_slice Tryz.underlying22 hv
  obtain ⟨fuel, hf⟩ := h
  cases fuel with
  | zero => simp [DataW.trod] at hf
  | succ m =>
    obtain ⟨A', n', c', l, hcs, hrd, hl, hc, hm⟩ := open_rd hf
    have hcs : Value.slice A n c = .slice A' n' c' := by simpa [Value.cells] using hcs
    simp only [Value.slice.injEq] at hcs
    obtain ⟨rfl, rfl, rfl⟩ := hcs
    exact ⟨A, n, c, l, rfl, hrd, hl, hc, hm⟩
set_option maxRecDepth 100000 in
theorem open_obj : ∀ (n : Nat) (cs : List Value) (x : DataW H × List MemPlace), DataW.trod enc Tryz.prog w base spare held n 24 cs = some x → ∃ a b : Bs, cs = [vs a, vs b] ∧ a.length ≤ 9223372036854775807 ∧ b.length ≤ 9223372036854775807
  | 0, cs, x, h => by simp [DataW.trod] at h
  | n + 1, cs, x, h => by
    obtain ⟨xs, m, hm, -, hlen, hxl, hg⟩ := DataW.trod_struct Tryz.underlying24 h
    obtain rfl : m = n := by omega
    rw [cOf_obj] at hlen
    obtain ⟨c0, c1, rfl⟩ := two_list hlen
    have hxl : xs.length = 2 := hxl
    obtain ⟨y0, e0⟩ := get_some (k := 0) hxl (by omega)
    obtain ⟨y1, e1⟩ := get_some (k := 1) hxl (by omega)
    have g0 := hg 0 _ rfl
    have g1 := hg 1 _ rfl
    rw [e0] at g0
    rw [e1] at g1
    simp [cOf_string] at g0 g1
    obtain ⟨a, h0, ha⟩ := open_str g0
    obtain ⟨b, h1, hb⟩ := open_str g1
    have h0 := one_val h0
    have h1 := one_val h1
    subst h0 h1
    exact ⟨a, b, rfl, ha, hb⟩
theorem i64_of {x : Int} (h : (Lit.int .i64 x).wf = true) : -9223372036854775808 ≤ x ∧ x ≤ 9223372036854775807 := by
  have h1 : IntKind.i64.min = -9223372036854775808 := rfl
  have h2 : IntKind.i64.max = 9223372036854775807 := rfl
  simp only [Lit.wf, Bool.and_eq_true, decide_eq_true_eq] at h
  omega
set_option maxRecDepth 100000 in
theorem open_cl : ∀ (n : Nat) (cs : List Value) (x : DataW H × List MemPlace), DataW.trod enc Tryz.prog w base spare held n 26 cs = some x → ∃ c : Cl, cs = (clC c).toList ∧ Szc c
  | 0, cs, x, h => by simp [DataW.trod] at h
  | n + 1, cs, x, h => by
    obtain ⟨xs, m, hm, -, hlen, hxl, hg⟩ := DataW.trod_struct Tryz.underlying26 h
    obtain rfl : m = n := by omega
    rw [cOf_claim] at hlen
    obtain ⟨c0, c1, c2, c3, c4, rfl⟩ := five_list hlen
    have hxl : xs.length = 4 := hxl
    obtain ⟨y0, e0⟩ := get_some (k := 0) hxl (by omega)
    obtain ⟨y1, e1⟩ := get_some (k := 1) hxl (by omega)
    obtain ⟨y2, e2⟩ := get_some (k := 2) hxl (by omega)
    obtain ⟨y3, e3⟩ := get_some (k := 3) hxl (by omega)
    have g0 := hg 0 _ rfl
    have g1 := hg 1 _ rfl
    have g2 := hg 2 _ rfl
    have g3 := hg 3 _ rfl
    rw [e0] at g0
    rw [e1] at g1
    rw [e2] at g2
    rw [e3] at g3
    simp [cOf_string, cOf_obj, cOf_int] at g0 g1 g2 g3
    obtain ⟨a, h0, ha⟩ := open_str g0
    obtain ⟨p, q, h1, hp, hq⟩ := open_obj m _ _ g1
    obtain ⟨b, h2, hb⟩ := open_str g2
    obtain ⟨e, h3, -, he⟩ := DataW.trod_int Tryz.underlying3 g3
    have h0 := one_val h0
    have h2 := one_val h2
    have h3 := one_val h3
    simp only [List.cons.injEq, and_true] at h1
    obtain ⟨h1, h1'⟩ := h1
    subst h0 h1 h1' h2 h3
    obtain ⟨i0, i1⟩ := i64_of he
    exact ⟨⟨a, p, q, b, e⟩, rfl, ⟨ha, hp, hq, hb, i0, i1⟩⟩
set_option maxRecDepth 100000 in
/-- a claim that came in. -/
theorem open_claim {r : Reach} {b0 : Nat} {v : Value} {d : DataW H} {p : List MemPlace} (hv : Value.okWide Tryz.prog w r b0 26 v) (h : DataW.Trod enc Tryz.prog w base spare held 26 v d p) : ∃ c : Cl, v = clV c ∧ Szc c := by
  obtain ⟨cs, rfl, hsz⟩ := okWide_struct Tryz.underlying26 hv
  obtain ⟨fuel, hf⟩ := h
  obtain ⟨c, hc, hs⟩ := open_cl _ _ _ hf
  refine ⟨c, ?_, hs⟩
  have hc : cs.toList = (clC c).toList := by simpa [Value.cells] using hc
  rw [Array.toList_inj.1 hc]
end Go.Proofs.YthgjhfcafdepcaaGreatDoor.Tk

/-
  A value of JSON, bytes that came in: opened to the plain words.
-/
import Derived.Test.YtminegmjklehnaaGreatDoorJsonAw
import Derived.ProofKit
import Derived.OpenShut
import Derived.ChangeOld
import Derived.ChangeArms
import Derived.Deep.Slices
namespace Go.Proofs.YtminegmjklehnaaGreatDoor.J
open Go.RowKit Go.Proofs.YtminegmjklehnaaGreatDoor.B Go.ChangeShapes Go.WideShapes
open Go.Proofs.YtminegmjklehnaaGreatDoor.M hiding Bs
set_option linter.unusedVariables false
set_option linter.unusedSimpArgs false

variable {H : Type} {enc : TypeId × Value → H} {w : World} {base : Nat} {spare : Nat → Bool} {held : Bool}
abbrev Ev : Nat → Prop := fun _ => True
theorem str_vs (s : ByteArray) : Value.string s = vs s.data.toList := by
  obtain ⟨⟨l⟩⟩ := s
  rfl
theorem str_len {s : ByteArray} (h : s.size ≤ maxLen) : s.data.toList.length ≤ 9223372036854775807 := by
  have hmx : maxLen = 9223372036854775807 := by unfold maxLen; rfl
  obtain ⟨⟨l⟩⟩ := s
  rw [hmx] at h
  exact h
/-- a slice that came in, opened: its elements by their own law. -/
theorem open_sl {α : Type} {P : Program} {t e : TypeId} {size n : Nat} {R : α → List Value → Prop} {Q : α → Prop} (ht : P.underlying t = some (.slice e)) (hc : P.cellsOf e = size) {cs : List Value} {x : DataW H × List MemPlace}
    (h : DataW.trod enc P w base spare held (n + 1) t cs = some x) (he : ∀ cs y, DataW.trod enc P w base spare held n e cs = some y → ∃ a, R a cs ∧ Q a) :
    ∃ A len cap xs, cs = [.slice A len cap] ∧ SlV w Ev size R xs A len ∧ len ≤ cap ∧ ∀ x ∈ xs, Q x := by
  have hmx : maxLen = 9223372036854775807 := by unfold maxLen; rfl
  rcases DataW.trod_slice ht h with ⟨rfl, -⟩ | ⟨a, len, cap, elems, rest, m, hm, rfl, -, hb, hl, hmax, hlen, hel, -, -⟩
  · exact ⟨none, 0, 0, [], rfl, ⟨rfl, by omega, fun k x hx => by simp at hx⟩, Nat.le_refl _, fun x hx => by simp at hx⟩
  · obtain rfl : m = n := by omega
    have each : ∀ i : Fin len, ∃ q : α × List Value, w.cells? base (a.add (i.val * size)) size = some q.2 ∧ R q.1 q.2 ∧ Q q.1 := by
      intro i
      have h1 := hel i.val i.2
      rw [List.getElem?_eq_getElem (by omega), hc, Option.bind_eq_some_iff] at h1
      obtain ⟨cs', h2, h3⟩ := h1
      obtain ⟨b, h4, h5⟩ := he _ _ h3
      exact ⟨(b, cs'), h2, h4, h5⟩
    have hf := fun i => Classical.choose_spec (each i)
    refine ⟨some a, len, cap, List.ofFn (fun i => (Classical.choose (each i)).1), rfl, ⟨by simp, by omega, fun k x hx => ?_⟩, by omega, fun x hx => ?_⟩
    · rw [List.getElem?_ofFn] at hx
      split at hx
      · rename_i hk
        cases hx
        obtain ⟨h1, h2, h3⟩ := hf ⟨k, hk⟩
        obtain ⟨h4, h5, h6⟩ := World.cells?_some h1
        refine ⟨a, _, _, rfl, rfl, trivial, h5, fun j u hu => ?_, h2⟩
        have hj : j < size := by
          rw [← h5]
          exact (List.getElem?_eq_some_iff.1 hu).1
        rw [h6 j hj]
        exact hu
      · cases hx
    · rw [List.mem_ofFn] at hx
      obtain ⟨i, rfl⟩ := hx
      exact (hf i).2.2
theorem open_str {n : Nat} {cs : List Value} {x : DataW H × List MemPlace} (h : DataW.trod enc Tryz.prog w base spare held n 9 cs = some x) : ∃ s, cs = [vs s] ∧ s.length ≤ 9223372036854775807 := by
  obtain ⟨s, rfl, -, hs⟩ := DataW.trod_string Tryz.underlying9 h
  exact ⟨s.data.toList, by rw [str_vs], str_len hs⟩
theorem one_str {v : Value} {s : Bs} (h : [v] = [vs s]) : v = vs s := by simpa using h
theorem cOf_JSON : Tryz.prog.cellsOf 27 = 5 := by kernel_rfl
theorem cOf_string : Tryz.prog.cellsOf 9 = 1 := by kernel_rfl
theorem cOf_int : Tryz.prog.cellsOf 3 = 1 := by kernel_rfl
theorem cOf_strs : Tryz.prog.cellsOf 24 = 1 := by kernel_rfl
theorem cOf_kids : Tryz.prog.cellsOf 25 = 1 := by kernel_rfl
theorem get_some {α : Type} {l : List α} {n k : Nat} (h : l.length = n) (hk : k < n) : ∃ y, l[k]? = some y := ⟨l[k]'(by omega), List.getElem?_eq_getElem (by omega)⟩
set_option maxRecDepth 100000 in
theorem open_js : ∀ (n : Nat) (cs : List Value) (x : DataW H × List MemPlace), DataW.trod enc Tryz.prog w base spare held n 27 cs = some x → ∃ j : Js, JsR w Ev j cs ∧ FitJ j
  | 0, cs, x, h => by simp [DataW.trod] at h
  | n + 1, cs, x, h => by
    obtain ⟨xs, m, hm, -, hlen, hxl, hg⟩ := DataW.trod_struct Tryz.underlying27 h
    obtain rfl : m = n := by omega
    rw [cOf_JSON] at hlen
    obtain ⟨c0, c1, c2, c3, c4, rfl⟩ := five_list hlen
    have hxl : xs.length = 5 := hxl
    obtain ⟨y0, e0⟩ := get_some (k := 0) hxl (by omega)
    obtain ⟨y1, e1⟩ := get_some (k := 1) hxl (by omega)
    obtain ⟨y2, e2⟩ := get_some (k := 2) hxl (by omega)
    obtain ⟨y3, e3⟩ := get_some (k := 3) hxl (by omega)
    obtain ⟨y4, e4⟩ := get_some (k := 4) hxl (by omega)
    have g0 := hg 0 _ rfl
    have g1 := hg 1 _ rfl
    have g2 := hg 2 _ rfl
    have g3 := hg 3 _ rfl
    have g4 := hg 4 _ rfl
    rw [e0] at g0
    rw [e1] at g1
    rw [e2] at g2
    rw [e3] at g3
    rw [e4] at g4
    simp [cOf_string, cOf_int, cOf_strs, cOf_kids] at g0 g1 g2 g3 g4
    obtain ⟨k, h0, -, -⟩ := DataW.trod_int Tryz.underlying3 g0
    obtain ⟨q, h1, -, -⟩ := DataW.trod_int Tryz.underlying3 g1
    obtain ⟨t, h2, ht⟩ := open_str g2
    simp only [List.cons.injEq, and_true] at h0 h1
    have h2 := one_str h2
    subst h0 h1 h2
    cases m with
    | zero => simp [DataW.trod] at g3
    | succ m =>
      obtain ⟨A, an, ac, names, h3, hns, hac, hnf⟩ := open_sl (R := StrR) (Q := fun s => s.length ≤ 9223372036854775807) Tryz.underlying24 cOf_string g3 (fun cs y hy => open_str hy)
      obtain ⟨B, bn, bc, kids, h4, hks, hbc, hkf⟩ := open_sl (R := JsR w Ev) (Q := FitJ) Tryz.underlying25 cOf_JSON g4 (fun cs y hy => open_js m cs y hy)
      simp only [List.cons.injEq, and_true] at h3 h4
      subst h3 h4
      obtain rfl := hns.1
      obtain rfl := hks.1
      refine ⟨.mk k q t names kids.length (fun i => kids[i.val]), ⟨rfl, ?_⟩, (FitJ_mk ..).2 ⟨ht, hnf, fun i => hkf _ (List.getElem_mem _)⟩⟩
      unfold JsV
      refine ⟨A, ac, B, bc, rfl, hns, ⟨hks.2.1, hac⟩, fun i => ?_⟩
      obtain ⟨a, b, cs, k1, k2, k3, k4, k5, k6⟩ := hks.2.2 i.val _ (List.getElem?_eq_getElem i.2)
      obtain ⟨v0, v1, v2, v3, v4, rfl⟩ := five_list k4
      have c0 := k5 0 _ rfl
      have c1 := k5 1 _ rfl
      have c2 := k5 2 _ rfl
      have c3 := k5 3 _ rfl
      have c4 := k5 4 _ rfl
      rw [add_zero] at c0
      rw [Addr.add_succ'] at c1 c2 c3 c4
      exact ⟨a, b, v0, v1, v2, v3, v4, k1, k2, k3, c0, c1, c2, c3, c4, k6.2⟩
set_option maxRecDepth 100000 in
/-- a value that came in. -/
theorem open_json {r : Reach} {b0 : Nat} {v : Value} {d : DataW H} {p : List MemPlace} (hv : Value.okWide Tryz.prog w r b0 27 v) (h : DataW.Trod enc Tryz.prog w base spare held 27 v d p) :
    ∃ (j : Js) (k n : Int) (t : Bs) (A : Option Addr) (an ac : Nat) (B : Option Addr) (bn bc : Nat), v = jAgg k n t A an ac B bn bc ∧ JsV w (fun b => b < w.heap.size) j (jAgg k n t A an ac B bn bc) ∧ FitJ j := by
  obtain ⟨cs, rfl, hsz⟩ := okWide_struct Tryz.underlying27 hv
  obtain ⟨fuel, hf⟩ := h
  obtain ⟨j, hj, hfit⟩ := open_js _ _ _ hf
  obtain ⟨k, n, t, A, an, ac, B, bn, bc, hform⟩ := hj.2.form
  have hj2 := hj.2
  rw [hform] at hj2
  have hform : Value.agg cs = jAgg k n t A an ac B bn bc := by simpa [Value.cells] using hform
  exact ⟨j, k, n, t, A, an, ac, B, bn, bc, hform, JsV.keep (fun b _ hl => hl) (fun a v _ h => h) _ _ hj2, hfit⟩
theorem open_names {r : Reach} {b0 : Nat} {v : Value} {d : DataW H} {p : List MemPlace} (h : DataW.Trod enc Tryz.prog w base spare held 24 v d p) (hv : ∃ a n c, v = .slice a n c) :
    ∃ (A : Option Addr) (n c : Nat) (l : List Bs), v = .slice A n c ∧ SlV w (fun b => b < w.heap.size) 1 StrR l A n ∧ n ≤ c ∧ ∀ x ∈ l, x.length ≤ 9223372036854775807 := by
  obtain ⟨a, n, c, rfl⟩ := hv
  obtain ⟨fuel, hf⟩ := h
  cases fuel with
  | zero => simp [DataW.trod] at hf
  | succ m =>
    obtain ⟨A, an, ac, names, h3, hns, hac, hnf⟩ := open_sl (R := StrR) (Q := fun s => s.length ≤ 9223372036854775807) Tryz.underlying24 cOf_string hf (fun cs y hy => open_str hy)
    have h3 : Value.slice a n c = .slice A an ac := by simpa [Value.cells] using h3
    exact ⟨A, an, ac, names, h3, SlV.keep (by decide) (fun b _ hl => hl) (fun a v _ h => h) (fun _ _ h => h) hns, hac, hnf⟩
theorem u8_of {x : Int} (h : (Lit.int .u8 x).wf = true) : 0 ≤ x ∧ x ≤ 255 := by
  have h1 : IntKind.u8.min = 0 := rfl
  have h2 : IntKind.u8.max = 255 := rfl
  simp only [Lit.wf, Bool.and_eq_true, decide_eq_true_eq] at h
  omega
set_option maxRecDepth 100000 in
/-- bytes that came in. -/
theorem open_bytes {r : Reach} {b0 : Nat} {v : Value} {d : DataW H} {p : List MemPlace} (hv : Value.okWide Tryz.prog w r b0 22 v) (h : DataW.Trod enc Tryz.prog w base spare held 22 v d p) :
    ∃ (A : Option Addr) (n c : Nat) (l : Bs), v = .slice A n c ∧ BsV w (.slice A n c) l ∧ l.length = n ∧ n ≤ c ∧ n ≤ 9223372036854775807 := by
  have hmx : maxLen = 9223372036854775807 := by unfold maxLen; rfl
  obtain ⟨A, n, c, rfl⟩ := okWide_slice Tryz.underlying22 hv
  obtain ⟨fuel, hf⟩ := h
  cases fuel with
  | zero => simp [DataW.trod] at hf
  | succ fuel =>
    obtain ⟨A', n', c', l, hcs, hs, hc, hq⟩ := open_sl (R := fun (b : UInt8) cs => cs = [.int .u8 (b.toNat : Int)]) (Q := fun _ => True) Tryz.underlying22 (show Tryz.prog.cellsOf 5 = 1 by kernel_rfl) hf (fun cs y hy => by
      obtain ⟨z, h0, -, hz⟩ := DataW.trod_int Tryz.underlying5 hy
      have hz := u8_of hz
      refine ⟨UInt8.ofNat z.toNat, ?_, trivial⟩
      rw [h0, UInt8.toNat_ofNat']
      have e : ((z.toNat % 2 ^ 8 : Nat) : Int) = z := by omega
      rw [e])
    have hcs : Value.slice A n c = .slice A' n' c' := by simpa [Value.cells] using hcs
    simp only [Value.slice.injEq] at hcs
    obtain ⟨rfl, rfl, rfl⟩ := hcs
    refine ⟨A, n, c, l, rfl, ?_, hs.1, hc, hs.2.1⟩
    cases l with
    | nil =>
      have := hs.1
      simp at this
      subst this
      exact .inl ⟨rfl, A, c, rfl⟩
    | cons x l =>
      obtain ⟨a, b, cs, e1, e2, e3, e4, e5, e6⟩ := hs.2.2 0 x rfl
      subst e6
      have hc0 := e5 0 _ rfl
      rw [← e2, Nat.zero_mul, add_zero, add_zero] at hc0
      have hsp := World.cell?_spot hc0
      obtain ⟨g, off, spot⟩ := a
      cases hsp
      refine .inr ⟨g, off, c, ?_, fun i hi => ?_⟩
      · rw [e1, hs.1]
      · obtain ⟨a, b, cs, e1', e2, e3, e4, e5, e6⟩ := hs.2.2 i _ (List.getElem?_eq_getElem hi)
        rw [e1] at e1'
        cases e1'
        subst e6
        have hci := e5 0 _ rfl
        rw [← e2, Nat.mul_one, add_zero, Addr.add_lit] at hci
        exact hci
end Go.Proofs.YtminegmjklehnaaGreatDoor.J

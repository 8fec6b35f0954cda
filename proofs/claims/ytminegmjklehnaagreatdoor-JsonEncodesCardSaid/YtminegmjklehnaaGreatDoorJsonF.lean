/-
  JSON in memory: how a value reads; the list that is being read.
-/
import Derived.Test.YtminegmjklehnaaGreatDoorJsonE
namespace Go.Proofs.YtminegmjklehnaaGreatDoor.J
open Go.RowKit Go.Proofs.YtminegmjklehnaaGreatDoor.B
open Go.Proofs.YtminegmjklehnaaGreatDoor.M hiding Bs
open Go.Proofs.YtminegmjklehnaaGreatDoor.C (QRow Turn)
set_option linter.unusedVariables false
set_option linter.unusedSimpArgs false

def StrR (s : Bs) (cs : List Value) : Prop := cs = [vs s]
/-- a value in memory reads as this; the blocks that it reads are such ones. -/
def JsV (w : World) (F : Nat → Prop) : Js → Value → Prop
  | .mk k n t names nk kid, v => ∃ A ac B bc, v = jAgg k n t A names.length ac B nk bc ∧ SlV w F 1 StrR names A names.length ∧ (nk ≤ 9223372036854775807 ∧ names.length ≤ ac) ∧
    ∀ i : Fin nk, ∃ a b v0 v1 v2 v3 v4, B = some a ∧ a.add (i.val * 5) = b ∧ F b.block ∧ w.cell? b = some v0 ∧ w.cell? ⟨b.block, b.off + 1, none⟩ = some v1 ∧ w.cell? ⟨b.block, b.off + 2, none⟩ = some v2 ∧
      w.cell? ⟨b.block, b.off + 3, none⟩ = some v3 ∧ w.cell? ⟨b.block, b.off + 4, none⟩ = some v4 ∧ JsV w F (kid i) (.agg #[v0, v1, v2, v3, v4])
theorem JsV.keep {w w' : World} {F F' : Nat → Prop} (hF : ∀ b, F b → b < w.heap.size → F' b) (hk : ∀ a v, F a.block → w.cell? a = some v → w'.cell? a = some v) : ∀ (e : Js) (v : Value), JsV w F e v → JsV w' F' e v
  | .mk k n t names nk kid, v, h => by
    unfold JsV at h ⊢
    obtain ⟨A, ac, B, bc, h1, hs, hn, h2⟩ := h
    refine ⟨A, ac, B, bc, h1, hs.keep (by decide) hF hk (fun _ _ h => h), hn, fun i => ?_⟩
    obtain ⟨a, b, v0, v1, v2, v3, v4, e1, e2, e3, c0, c1, c2, c3, c4, e4⟩ := h2 i
    exact ⟨a, b, v0, v1, v2, v3, v4, e1, e2, hF _ e3 (World.block_lt_of_cell? w b c0), hk _ _ e3 c0, hk ⟨b.block, b.off + 1, none⟩ _ e3 c1, hk ⟨b.block, b.off + 2, none⟩ _ e3 c2, hk ⟨b.block, b.off + 3, none⟩ _ e3 c3, hk ⟨b.block, b.off + 4, none⟩ _ e3 c4, JsV.keep hF hk _ _ e4⟩
theorem JsV.form {w : World} {F : Nat → Prop} {e : Js} {v : Value} (h : JsV w F e v) : ∃ k n t A an ac B bn bc, v = jAgg k n t A an ac B bn bc := by
  obtain ⟨k, n, t, names, nk, kid⟩ := e
  unfold JsV at h
  obtain ⟨A, ac, B, bc, h1, _⟩ := h
  exact ⟨_, _, _, _, _, _, _, _, _, h1⟩
theorem JsV.below {w w' : World} {F : Nat → Prop} {e : Js} {v : Value} (h : JsV w F e v) (hb : Below w.heap.size w w') : JsV w' F e v :=
  JsV.keep (fun _ h _ => h) (fun a v _ hv => keepC hb hv) e v h
theorem JsV.turn {S F F' : Nat → Prop} {w w' : World} {e : Js} {v : Value} (h : JsV w F e v) (hT : Turn S w w') (hF : ∀ b, F b → b < w.heap.size → ¬ S b ∧ F' b) : JsV w' F' e v :=
  JsV.keep (fun b hb hl => (hF b hb hl).2) (turn_cell hT (fun b hb hl => (hF b hb hl).1)) e v h
theorem leaf_JsV (w : World) (F : Nat → Prop) (k n : Int) (t : Bs) : JsV w F (leafJ k n t) (jAgg k n t none 0 0 none 0 0) := by
  unfold leafJ JsV
  exact ⟨none, 0, none, 0, rfl, ⟨rfl, by simp, fun k x hx => by simp at hx⟩, ⟨by omega, by simp⟩, fun i => i.elim0⟩
def JsR (w : World) (F : Nat → Prop) (j : Js) (cs : List Value) : Prop := cs.length = 5 ∧ JsV w F j (.agg cs.toArray)
theorem five_list {α : Type} {l : List α} (h : l.length = 5) : ∃ a b c d e, l = [a, b, c, d, e] := by
  match l, h with
  | [a, b, c, d, e], _ => exact ⟨a, b, c, d, e, rfl⟩
theorem many_JsV {w : World} {F : Nat → Prop} {k : Int} {names : List Bs} {kids : List Js} {A B : Option Addr} {ac bc : Nat} (hn : SlV w F 1 StrR names A names.length) (hk : SlV w F 5 (JsR w F) kids B kids.length) (hac : names.length ≤ ac) :
    JsV w F (manyJ k names kids) (jAgg k 0 [] A names.length ac B kids.length bc) := by
  unfold manyJ JsV
  refine ⟨A, ac, B, bc, rfl, hn, ⟨hk.2.1, hac⟩, fun i => ?_⟩
  obtain ⟨a, b, cs, h1, h2, h3, h4, h5, h6⟩ := hk.2.2 i.val _ (List.getElem?_eq_getElem i.2)
  obtain ⟨v0, v1, v2, v3, v4, rfl⟩ := five_list h4
  have c0 := h5 0 _ rfl
  have c1 := h5 1 _ rfl
  have c2 := h5 2 _ rfl
  have c3 := h5 3 _ rfl
  have c4 := h5 4 _ rfl
  rw [add_zero] at c0
  rw [Addr.add_succ'] at c1 c2 c3 c4
  exact ⟨a, b, v0, v1, v2, v3, v4, h1, h2, h3, c0, c1, c2, c3, c4, h6.2⟩
theorem agg5 {a b c d e a' b' c' d' e' : Value} (h : Value.agg #[a, b, c, d, e] = .agg #[a', b', c', d', e']) : a = a' ∧ b = b' ∧ c = c' ∧ d = d' ∧ e = e' := by
  simpa using h
/-- the value, taken apart. -/
theorem JsV.top {w : World} {F : Nat → Prop} {k n : Int} {t : Bs} {names : List Bs} {nk : Nat} {kid : Fin nk → Js} {v : Value} (h : JsV w F (.mk k n t names nk kid) v) :
    ∃ A ac B bc, v = jAgg k n t A names.length ac B nk bc ∧ SlV w F 1 StrR names A names.length ∧ nk ≤ 9223372036854775807 ∧ names.length ≤ ac := by
  unfold JsV at h
  obtain ⟨A, ac, B, bc, h1, h2, h3, _⟩ := h
  exact ⟨A, ac, B, bc, h1, h2, h3⟩
theorem JsV.kid {w : World} {F : Nat → Prop} {k n : Int} {t : Bs} {names : List Bs} {nk : Nat} {kid : Fin nk → Js} {A B : Option Addr} {an ac bc : Nat} (h : JsV w F (.mk k n t names nk kid) (jAgg k n t A an ac B nk bc)) (j : Nat) (hj : j < nk) :
    ∃ a b k0 n0 t0 A0 an0 ac0 B0 bn0 bc0, B = some a ∧ a.add (j * 5) = b ∧ F b.block ∧ w.cell? b = some (.int .i64 k0) ∧ w.cell? ⟨b.block, b.off + 1, none⟩ = some (.int .i64 n0) ∧ w.cell? ⟨b.block, b.off + 2, none⟩ = some (vs t0) ∧
      w.cell? ⟨b.block, b.off + 3, none⟩ = some (.slice A0 an0 ac0) ∧ w.cell? ⟨b.block, b.off + 4, none⟩ = some (.slice B0 bn0 bc0) ∧ JsV w F (kid ⟨j, hj⟩) (jAgg k0 n0 t0 A0 an0 ac0 B0 bn0 bc0) := by
  unfold JsV at h
  obtain ⟨A', ac', B', bc', h1, -, -, h2⟩ := h
  have h1 := (agg5 h1).2.2.2.2
  injection h1 with hB _ _
  obtain ⟨a, b, v0, v1, v2, v3, v4, e1, e2, e3, c0, c1, c2, c3, c4, e4⟩ := h2 ⟨j, hj⟩
  obtain ⟨k0, n0, t0, A0, an0, ac0, B0, bn0, bc0, hf⟩ := e4.form
  rw [hf] at e4
  obtain ⟨rfl, rfl, rfl, rfl, rfl⟩ := agg5 hf
  exact ⟨a, b, k0, n0, t0, A0, an0, ac0, B0, bn0, bc0, hB.trans e1, e2, e3, c0, c1, c2, c3, c4, e4⟩
/-! ### a list that is being read -/
/-- the blocks of what was read. -/
def KF (B0 : Nat) (pb jb : Nat) (g : Option Nat) (b : Nat) : Prop := B0 ≤ b ∧ b ≠ pb ∧ b ≠ jb ∧ g ≠ some b
structure LS (B0 : Nat) (rb pb jb : Nat) (acc : List Js) (B : Option Addr) (c : Nat) (w : World) : Prop where
  hrb : rb < B0
  hpb : rb < pb
  hjb : B0 ≤ jb
  hne : pb ≠ jb
  box : w.heap[pb]? = some (.cells #[.pointer (some ⟨rb, 0, none⟩)] 45 (0, 0))
  jc : w.heap[jb]? = some (.cells (jcs 4 0 [] none 0 0 B acc.length c) 27 (0, 0))
  row : OwnL w 27 5 (JsR w (KF B0 pb jb (own B acc.length c))) (.slice B acc.length c) acc
  g1 : ∀ g, own B acc.length c = some g → B0 ≤ g ∧ g ≠ pb ∧ g ≠ jb
theorem JsR.turn {S F F' : Nat → Prop} {w w' : World} {e : Js} {cs : List Value} (h : JsR w F e cs) (hT : Turn S w w') (hF : ∀ b, F b → b < w.heap.size → ¬ S b ∧ F' b) : JsR w' F' e cs := ⟨h.1, h.2.turn hT hF⟩
theorem LS.at {B0 rb pb jb : Nat} {acc : List Js} {B : Option Addr} {c : Nat} {w w' : World} (h : LS B0 rb pb jb acc B c w) (hA : At rb w w') : LS B0 rb pb jb acc B c w' := by
  have h1 := h.hrb
  have h2 := h.hpb
  have h3 := h.hjb
  refine ⟨h1, h2, h3, h.hne, (hA.block _ (lt_of_heap h.box) (by omega)).trans h.box, (hA.block _ (lt_of_heap h.jc) (by omega)).trans h.jc, h.row.kept (fun g hg => hA.block _ (h.row.block_lt hg) (by have := h.g1 g hg; omega)) (fun x cs hx => hx.turn hA (fun b hb hl => ⟨by have := hb.1; omega, hb⟩)), h.g1⟩
theorem zero5_one : ∀ u ∈ [Value.int .i64 0, .int .i64 0, .string ⟨#[]⟩, .slice none 0 0, .slice none 0 0], u.oneCell' = true := by
  intro u hu
  simp at hu
  rcases hu with rfl | rfl | rfl | rfl <;> rfl
end Go.Proofs.YtminegmjklehnaaGreatDoor.J

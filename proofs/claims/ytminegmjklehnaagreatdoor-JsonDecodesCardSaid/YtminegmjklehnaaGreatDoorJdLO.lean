/-
  The document's reader of JSON: what list and object put together; what value answers.
-/
import Derived.Test.YtminegmjklehnaaGreatDoorJdAH
import Derived.Test.YtminegmjklehnaaGreatDoorJsonI
import Derived.Test.YtminegmjklehnaaGreatDoorJsonK
import Derived.Test.YtminegmjklehnaaGreatDoorJsonL
import Derived.Test.YtminegmjklehnaaGreatDoorJsonJ
import Derived.Test.YtminegmjklehnaaGreatDoorJsonN
import Derived.Test.YtminegmjklehnaaGreatDoorJdK
import Derived.Test.YtminegmjklehnaaGreatDoorJsonO
namespace Go.Proofs.YtminegmjklehnaaGreatDoor.J
open Go.RowKit Go.Proofs.YtminegmjklehnaaGreatDoor.B
open Go.Proofs.YtminegmjklehnaaGreatDoor.M hiding Bs
open Go.Proofs.YtminegmjklehnaaGreatDoor.C (QRow Turn)
set_option linter.unusedVariables false
set_option linter.unusedSimpArgs false

/-- the blocks of what was read. -/
def KD (B0 jb : Nat) (gA gB : Option Nat) (b : Nat) : Prop := B0 ≤ b ∧ b ≠ jb ∧ gA ≠ some b ∧ gB ≠ some b
structure DO (k : Int) (B0 jb : Nat) (names : List Bs) (kids : List Js) (A : Option Addr) (ac : Nat) (B : Option Addr) (bc : Nat) (w : World) : Prop where
  hjb : B0 ≤ jb
  jc : w.heap[jb]? = some (.cells (jcs k 0 [] A names.length ac B kids.length bc) 27 (0, 0))
  rowA : OwnL w 9 1 StrR (.slice A names.length ac) names
  rowB : OwnL w 27 5 (JsR w (KD B0 jb (own A names.length ac) (own B kids.length bc))) (.slice B kids.length bc) kids
  gA : ∀ g, own A names.length ac = some g → B0 ≤ g ∧ g ≠ jb
  gB : ∀ g, own B kids.length bc = some g → B0 ≤ g ∧ g ≠ jb
  gAB : ∀ g, own A names.length ac = some g → own B kids.length bc ≠ some g
theorem DO.turn {k : Int} {B0 jb : Nat} {names : List Bs} {kids : List Js} {A B : Option Addr} {ac bc : Nat} {w w' : World} {S : Nat → Prop} (h : DO k B0 jb names kids A ac B bc w) (hT : Turn S w w') (hS : ∀ b, B0 ≤ b → b < w.heap.size → ¬ S b) : DO k B0 jb names kids A ac B bc w' := by
  have h1 := h.hjb
  exact ⟨h1, (hT.block _ (lt_of_heap h.jc) (hS _ h1 (lt_of_heap h.jc))).trans h.jc,
    h.rowA.kept (fun g hg => hT.block _ (h.rowA.block_lt hg) (hS _ (h.gA g hg).1 (h.rowA.block_lt hg))) (fun x cs hx => hx),
    h.rowB.kept (fun g hg => hT.block _ (h.rowB.block_lt hg) (hS _ (h.gB g hg).1 (h.rowB.block_lt hg))) (fun x cs hx => hx.turn hT (fun b hb hl => ⟨hS b hb.1 hl, hb⟩)), h.gA, h.gB, h.gAB⟩
theorem DO.at {k : Int} {rb B0 jb : Nat} {names : List Bs} {kids : List Js} {A B : Option Addr} {ac bc : Nat} {w w' : World} (h : DO k B0 jb names kids A ac B bc w) (hrb : rb < B0) (hA : At rb w w') : DO k B0 jb names kids A ac B bc w' :=
  h.turn hA (fun b hb _ e => by omega)
/-- one more value. -/
theorem DO.pushK {k : Int} {B0 jb : Nat} {names : List Bs} {kids : List Js} {A B : Option Addr} {ac bc : Nat} {dss : List (List Value)} {w5 X w6 : World} {x : Js} {xk xn : Int} {xt : Bs} {xA : Option Addr} {xan xac : Nat} {xB : Option Addr} {xbn xbc : Nat}
    (h : DO k B0 jb names kids A ac B bc w5) (hd1 : ∀ c ∈ dss, c.length = 5) (hd3 : All2 (JsR w5 (KD B0 jb (own A names.length ac) (own B kids.length bc))) kids dss)
    (hx : JsV w5 (KD B0 jb (own A names.length ac) (own B kids.length bc)) x (jAgg xk xn xt xA xan xac xB xbn xbc))
    (hT : Turn (fun _ => False) w5 X) {v' : Value} (hG : GA X w6 27 5 (.slice B kids.length bc) v' (kids.length + 1) (dss.flatten ++ [.int .i64 xk, .int .i64 xn, vs xt, .slice xA xan xac, .slice xB xbn xbc])) :
    ∃ B' bc', v' = .slice B' (kids.length + 1) bc' ∧ DO k B0 jb names (kids ++ [x]) A ac B' bc' (w6.setCell ⟨jb, 4, none⟩ v') ∧ Turn (fun b => b = jb ∨ some b = own B kids.length bc) w5 (w6.setCell ⟨jb, 4, none⟩ v') := by
  obtain ⟨B', bc', hv⟩ := QRow.form hG.row
  have hjb := h.hjb
  have hjl := lt_of_heap h.jc
  have hX := hT.size
  have hT6 : Turn (fun b => some b = own B kids.length bc) w5 w6 := Turn.trans (Turn.mono hT (fun _ h _ => h.elim)) hG.turn (fun b hb _ => hb)
  have hjs : w6.heap[jb]? = some (.cells (jcs k 0 [] A names.length ac B kids.length bc) 27 (0, 0)) := (hT6.block jb hjl (fun e => (h.gB _ e.symm).2 rfl)).trans h.jc
  have hset : Turn (fun b => b = jb) w6 (w6.setCell ⟨jb, 4, none⟩ v') := Turn.setCell _ _ _ rfl
  have hTW : Turn (fun b => b = jb ∨ some b = own B kids.length bc) w5 (w6.setCell ⟨jb, 4, none⟩ v') := Turn.trans (Turn.mono hT6 (fun b hb _ => .inr hb)) hset (fun b hb _ => .inl hb)
  have gB' : ∀ g, own B' (kids.length + 1) bc' = some g → own B kids.length bc = some g ∨ w5.heap.size ≤ g := fun g hg => by
    rcases hG.new g (by rw [hv]; exact hg) with h1 | h1
    · exact .inl h1
    · exact .inr (by omega)
  have gBj : ∀ g, own B' (kids.length + 1) bc' = some g → B0 ≤ g ∧ g ≠ jb := fun g hg => by
    rcases gB' g hg with h1 | h1
    · exact h.gB g h1
    · omega
  have e2 : (kids ++ [x]).length = kids.length + 1 := by simp
  refine ⟨B', bc', hv, ⟨hjb, ?_, ?_, ?_, h.gA, ?_, ?_⟩, hTW⟩
  · rw [e2, hv]
    exact heap_setCell_same _ jb 4 _ _ _ hjs
  · exact h.rowA.kept (fun g hg => hTW.block _ (h.rowA.block_lt hg) (fun e => by
      rcases e with e | e
      · exact (h.gA g hg).2 e
      · exact h.gAB g hg e.symm)) (fun x cs hx => hx)
  · rw [e2]
    refine ⟨dss ++ [[.int .i64 xk, .int .i64 xn, vs xt, .slice xA xan xac, .slice xB xbn xbc]], ?_, ?_, ?_⟩
    · intro d hd
      rcases List.mem_append.1 hd with hd | hd
      · exact hd1 d hd
      · rw [List.mem_singleton.1 hd]; rfl
    · rw [e2, List.flatten_append, ← hv]
      exact (by simpa using qturned hG.row hset (fun g hg e => (gBj g (by rw [hv] at hg; exact hg)).2 e))
    · refine (hd3.mono (fun y cs hy => ?_)).snoc ?_
      · refine hy.turn hTW (fun b hb hlb => ⟨fun hk => ?_, hb.1, hb.2.1, hb.2.2.1, fun hg => ?_⟩)
        · rcases hk with hk | hk
          · exact hb.2.1 hk
          · exact hb.2.2.2 hk.symm
        · rcases gB' b hg with hg | hg
          · exact hb.2.2.2 hg
          · omega
      · refine ⟨rfl, hx.turn hTW (fun b hb hlb => ⟨fun hk => ?_, hb.1, hb.2.1, hb.2.2.1, fun hg => ?_⟩)⟩
        · rcases hk with hk | hk
          · exact hb.2.1 hk
          · exact hb.2.2.2 hk.symm
        · rcases gB' b hg with hg | hg
          · exact hb.2.2.2 hg
          · omega
  · rw [e2]; exact gBj
  · rw [e2]
    intro g hg hg'
    rcases gB' g hg' with h1 | h1
    · exact h.gAB g hg h1
    · have := h.rowA.block_lt hg; omega
/-- one more name. -/
theorem DO.pushN {k : Int} {B0 jb : Nat} {names : List Bs} {kids : List Js} {A B : Option Addr} {ac bc : Nat} {css : List (List Value)} {w5 X w6 : World} {s : Bs}
    (h : DO k B0 jb names kids A ac B bc w5) (hc1 : ∀ c ∈ css, c.length = 1) (hc3 : All2 StrR names css)
    (hT : Turn (fun _ => False) w5 X) {v' : Value} (hG : GA X w6 9 1 (.slice A names.length ac) v' (names.length + 1) (css.flatten ++ [vs s])) :
    ∃ A' ac', v' = .slice A' (names.length + 1) ac' ∧ DO k B0 jb (names ++ [s]) kids A' ac' B bc (w6.setCell ⟨jb, 3, none⟩ v') ∧ Turn (fun b => b = jb ∨ some b = own A names.length ac) w5 (w6.setCell ⟨jb, 3, none⟩ v') := by
  obtain ⟨A', ac', hv⟩ := QRow.form hG.row
  have hjb := h.hjb
  have hjl := lt_of_heap h.jc
  have hX := hT.size
  have hT6 : Turn (fun b => some b = own A names.length ac) w5 w6 := Turn.trans (Turn.mono hT (fun _ h _ => h.elim)) hG.turn (fun b hb _ => hb)
  have hjs : w6.heap[jb]? = some (.cells (jcs k 0 [] A names.length ac B kids.length bc) 27 (0, 0)) := (hT6.block jb hjl (fun e => (h.gA _ e.symm).2 rfl)).trans h.jc
  have hset : Turn (fun b => b = jb) w6 (w6.setCell ⟨jb, 3, none⟩ v') := Turn.setCell _ _ _ rfl
  have hTW : Turn (fun b => b = jb ∨ some b = own A names.length ac) w5 (w6.setCell ⟨jb, 3, none⟩ v') := Turn.trans (Turn.mono hT6 (fun b hb _ => .inr hb)) hset (fun b hb _ => .inl hb)
  have gA' : ∀ g, own A' (names.length + 1) ac' = some g → own A names.length ac = some g ∨ w5.heap.size ≤ g := fun g hg => by
    rcases hG.new g (by rw [hv]; exact hg) with h1 | h1
    · exact .inl h1
    · exact .inr (by omega)
  have gAj : ∀ g, own A' (names.length + 1) ac' = some g → B0 ≤ g ∧ g ≠ jb := fun g hg => by
    rcases gA' g hg with h1 | h1
    · exact h.gA g h1
    · omega
  have e1 : (names ++ [s]).length = names.length + 1 := by simp
  refine ⟨A', ac', hv, ⟨hjb, ?_, ?_, ?_, ?_, h.gB, ?_⟩, hTW⟩
  · rw [e1, hv]
    exact heap_setCell_same _ jb 3 _ _ _ hjs
  · rw [e1]
    refine ⟨css ++ [[vs s]], ?_, ?_, hc3.snoc rfl⟩
    · intro d hd
      rcases List.mem_append.1 hd with hd | hd
      · exact hc1 d hd
      · rw [List.mem_singleton.1 hd]; rfl
    · rw [e1, List.flatten_append, ← hv]
      exact (by simpa using qturned hG.row hset (fun g hg e => (gAj g (by rw [hv] at hg; exact hg)).2 e))
  · rw [e1]
    refine h.rowB.kept (fun g hg => hTW.block _ (h.rowB.block_lt hg) (fun e => by
      rcases e with e | e
      · exact (h.gB g hg).2 e
      · exact h.gAB g e.symm hg)) (fun y cs hy => ?_)
    refine hy.turn hTW (fun b hb hlb => ⟨fun hk => ?_, hb.1, hb.2.1, fun hg => ?_, hb.2.2.2⟩)
    · rcases hk with hk | hk
      · exact hb.2.1 hk
      · exact hb.2.2.1 hk.symm
    · rcases gA' b hg with hg | hg
      · exact hb.2.2.1 hg
      · omega
  · rw [e1]; exact gAj
  · rw [e1]
    intro g hg hg'
    rcases gA' g hg with h1 | h1
    · exact h.gAB g h1 hg'
    · have := h.rowB.block_lt hg'; omega
theorem DO.start {k : Int} {w : World} {jb : Nat} (h : w.heap[jb]? = some (.cells (jcs k 0 [] none 0 0 none 0 0) 27 (0, 0))) : DO k jb jb [] [] none 0 none 0 w :=
  ⟨Nat.le_refl _, h, OwnL.nil _ _ _ _, OwnL.nil _ _ _ _, fun g hg => (by cases hg), fun g hg => (by cases hg), fun g hg => (by cases hg)⟩
/-- what value answers. -/
def VlRet (w : World) (rb : Nat) (b : Bs) (r : Except Int (Js × Bs)) (e : Ending) (w' : World) : Prop := ∃ x k n t A an ac B bn bc, e = .returned (jAgg k n t A an ac B bn bc) ∧ At rb w w' ∧ JsV w' (fun g => w.heap.size ≤ g) x (jAgg k n t A an ac B bn bc) ∧ match r with
  | .ok (y, M) => x = y ∧ RS w' rb b (.ok M)
  | .error d => RS w' rb b (.error d)
def stP {α : Type} (p : P α) : St → Except Int (α × Bs)
  | .ok L => p L
  | .error e => .error e
def RVSpec (p : P Js) (deep : Int) : Prop := ∀ (w : World) (rb : Nat) (b : Bs) (s : St), RS w rb b s →
  Calls Tryz.prog 32 #[.pointer (some ⟨rb, 0, none⟩), .int .i64 deep] w (VlRet w rb b (stP p s))
theorem own_capD {α : Type} {w : World} {e : TypeId} {size : Nat} {R : α → List Value → Prop} {A : Option Addr} {c : Nat} {xs : List α} (h : OwnL w e size R (.slice A xs.length c) xs) : xs.length ≤ c := by
  obtain ⟨css, h1, h2, h3⟩ := h
  rcases h2.2 with ⟨-, h0⟩ | ⟨g, off, cap, cur, hv, -, hn, -⟩
  · omega
  · injection hv with _ _ hc
    omega
/-- the result, stored and read back. -/
theorem dl_end {k : Int} {w w4 : World} {rb : Nat} {b : Bs} {s : St} {names : List Bs} {kids : List Js} {A B : Option Addr} {ac bc : Nat} {x0 x1 x2 x3 x4 : Value} (hrb : rb < w.heap.size) (hq : w4.heap[w.heap.size]? = some (.cells #[x0, x1, x2, x3, x4] 27 (0, 0))) (hS : DO k (w.heap.size + 1) (w.heap.size + 1) names kids A ac B bc w4) (hA : At rb w w4) (hR : RS w4 rb b s) :
    ∀ W, W = (((((w4.setCell ⟨w.heap.size, 0, none⟩ (.int .i64 k)).setCell ⟨w.heap.size, 1, none⟩ (.int .i64 0)).setCell ⟨w.heap.size, 2, none⟩ (vs [])).setCell ⟨w.heap.size, 3, none⟩ (.slice A names.length ac)).setCell ⟨w.heap.size, 4, none⟩ (.slice B kids.length bc)) →
    At rb w W ∧ JsV W (fun b => w.heap.size ≤ b) (manyJ k names kids) (jAgg k 0 [] A names.length ac B kids.length bc) ∧ RS W rb b s ∧ W.heap[w.heap.size]? = some (.cells (jcs k 0 [] A names.length ac B kids.length bc) 27 (0, 0)) := by
  rintro W rfl
  have hT := set5_turn (fp := fun k => k = w.heap.size) w4 w.heap.size rfl (.int .i64 k) (.int .i64 0) (vs []) (.slice A names.length ac) (.slice B kids.length bc)
  have h5 := set5 hq (.int .i64 k) (.int .i64 0) (vs []) (.slice A names.length ac) (.slice B kids.length bc)
  generalize (((((w4.setCell ⟨w.heap.size, 0, none⟩ (.int .i64 k)).setCell ⟨w.heap.size, 1, none⟩ (.int .i64 0)).setCell ⟨w.heap.size, 2, none⟩ (vs [])).setCell ⟨w.heap.size, 3, none⟩ (.slice A names.length ac)).setCell ⟨w.heap.size, 4, none⟩ (.slice B kids.length bc)) = W at *
  have hS' := hS.turn hT (fun b hb _ e => by omega)
  refine ⟨Turn.trans hA hT (fun b hb hlt => by omega), ?_, hR.keptB (turn_cell (F := fun g => g < rb) hT (fun b (hb : b < rb) _ e => by omega)) (hT.block _ hR.lt (by omega)), h5⟩
  exact many_JsV (hS'.rowA.read (by decide) (fun g hg => by have := hS'.gA g hg; show w.heap.size ≤ g; omega)) (OwnL.read (hS'.rowB.kept (fun _ _ => rfl) (fun y cs hy => (hy.turn (Turn.refl (fun _ => False) W) (fun b hb _ => ⟨fun h => h, by have := hb.1; omega⟩) : JsR W (fun b => w.heap.size ≤ b) y cs))) (by decide) (fun g hg => by have := hS'.gB g hg; show w.heap.size ≤ g; omega)) (own_capD hS'.rowA)
theorem RS.turn {w w' : World} {rb : Nat} {b : Bs} {s : St} {S : Nat → Prop} (h : RS w rb b s) (hT : Turn S w w') (hS : ∀ g, g ≤ rb → g < w.heap.size → ¬ S g) : RS w' rb b s :=
  h.keptB (turn_cell hT (fun g hg hl => hS g (Nat.le_of_lt hg) hl)) (hT.block _ h.lt (hS rb (Nat.le_refl _) h.lt))
/-- behind a piece: a comma and more, or the end. -/
def goS {σ : Type} (one : σ → P σ) (endc : UInt8) (acc : σ) : St → Except Int (σ × Bs)
  | .ok L => insideGo one endc (L.length + 1) acc L
  | .error e => .error e
theorem DO.jc6 {k : Int} {B0 jb : Nat} {names : List Bs} {kids : List Js} {A B : Option Addr} {ac bc : Nat} {w5 w6 : World} {fp : Nat → Prop} (h : DO k B0 jb names kids A ac B bc w5) (hT : Turn fp w5 w6) (hf : ¬ fp jb) : w6.heap[jb]? = some (.cells (jcs k 0 [] A names.length ac B kids.length bc) 27 (0, 0)) :=
  (hT.block jb (lt_of_heap h.jc) hf).trans h.jc
def stOf {σ : Type} : Except Int (σ × Bs) → St
  | .ok q => .ok q.2
  | .error d => .error d
def endS {σ : Type} (acc : σ) : St → Except Int (σ × Bs)
  | .ok K => .ok (acc, K)
  | .error d => .error d
theorem VlRet.st {w w' : World} {rb : Nat} {b : Bs} {r : Except Int (Js × Bs)} {e : Ending} (h : VlRet w rb b r e w') : ∃ x k n t A an ac B bn bc, e = .returned (jAgg k n t A an ac B bn bc) ∧ At rb w w' ∧ JsV w' (fun g => w.heap.size ≤ g) x (jAgg k n t A an ac B bn bc) ∧ RS w' rb b (stOf r) ∧ ∀ y M, r = .ok (y, M) → x = y := by
  obtain ⟨x, k, n, t, A, an, ac, B, bn, bc, h1, h2, h3, h4⟩ := h
  cases r with
  | error d => exact ⟨x, k, n, t, A, an, ac, B, bn, bc, h1, h2, h3, h4, fun y M h => (by cases h)⟩
  | ok q =>
    obtain ⟨y, M⟩ := q
    exact ⟨x, k, n, t, A, an, ac, B, bn, bc, h1, h2, h3, h4.2, fun y' M' h => (by cases h; exact h4.1)⟩
theorem go_step {σ : Type} {one : σ → P σ} {endc : UInt8} {size : σ → Nat} (hs : Steps one size) {acc acc' : σ} {L : Bs} {R : Except Int (σ × Bs)} (h : goS one endc acc (.ok L) = R) {s2 : St} (hs2 : s2 = stOf (one acc L)) (ha : ∀ a M, one acc L = .ok (a, M) → acc' = a) :
    (∀ K, spS s2 = .ok (44 :: K) → goS one endc acc' (.ok (sp K)) = R ∧ (sp K).length < L.length) ∧ (headV (spS s2) ≠ 44 → R = endS acc' (mustS endc (spS s2))) := by
  subst hs2
  subst h
  cases ho : one acc L with
  | error d =>
    refine ⟨fun K hK => (by cases hK), fun _ => ?_⟩
    exact insideGo_err ho
  | ok q =>
    obtain ⟨a, M⟩ := q
    obtain rfl := ha a M ho
    have hl := (hs _ _ _ _ ho).2
    have hm := sp_le M
    refine ⟨fun K hK => ?_, fun hh => ?_⟩
    · have hK : Except.ok (sp M) = Except.ok (44 :: K) := hK
      injection hK with hK
      have hk := sp_le K
      rw [hK] at hm
      simp at hm
      refine ⟨?_, by omega⟩
      show insideGo one endc ((sp K).length + 1) acc' (sp K) = insideGo one endc (L.length + 1) acc L
      rw [insideGo_more ho hK]
      exact insideGo_fuel hs _ _ _ _ (by omega) (by omega)
    · have hh : headV (.ok (sp M)) ≠ 44 := hh
      have ht : (takeB [44] (sp M)).1 = false := by
        cases hsm : sp M with
        | nil => rfl
        | cons c K =>
          rw [take34]
          cases hc : c == 44 with
          | true =>
            rw [hsm, eq_of_beq hc] at hh
            exact absurd rfl hh
          | false => rfl
      show insideGo one endc (L.length + 1) acc L = endS acc' (mustS endc (.ok (sp M)))
      rw [insideGo_last ho ht]
      cases sp M with
      | nil => rfl
      | cons c K =>
        show (if c == endc then Except.ok (acc', K) else Except.error 3) = endS acc' (if c = endc then .ok K else .error 3)
        by_cases hc : c = endc
        · rw [if_pos hc, if_pos (by rw [hc]; exact beq_self_eq_true _)]; rfl
        · rw [if_neg hc, if_neg (by simpa using hc)]; rfl
theorem go_first {σ : Type} {one : σ → P σ} {endc : UInt8} {size : σ → Nat} (hs : Steps one size) (hc : endc ≠ 0) {a : σ} {L : Bs} : (∀ K, sp L = endc :: K → insideP one endc a L = .ok (a, K)) ∧ (headV (.ok (sp L)) ≠ (endc.toNat : Int) → insideP one endc a L = goS one endc a (.ok (sp L))) := by
  refine ⟨fun K hK => insideP_end (by rw [hK, take34, if_pos (beq_self_eq_true _)]), fun hh => insideP_go hs ?_⟩
  cases hsm : sp L with
  | nil => rfl
  | cons c K =>
    rw [take34]
    cases hc : c == endc with
    | true =>
      rw [hsm, eq_of_beq hc] at hh
      exact absurd rfl hh
    | false => rfl
def dupS (names : List Bs) (s : Bs) : St → St
  | .ok M => if names.contains s then .error 7 else .ok M
  | .error d => .error d
theorem TxRet.st {w w' : World} {rb : Nat} {b : Bs} {r : Except Int (Bs × Bs)} {e : Ending} (h : TxRet w rb b r e w') : ∃ t, e = .returned (vs t) ∧ At rb w w' ∧ RS w' rb b (stOf r) ∧ ∀ y M, r = .ok (y, M) → t = y := by
  obtain ⟨h1, h2⟩ := h
  cases r with
  | error d =>
    obtain ⟨⟨t, h3⟩, h4⟩ := h2
    exact ⟨t, h3, h1, h4, fun y M h => (by cases h)⟩
  | ok q =>
    obtain ⟨t, M⟩ := q
    exact ⟨t, h2.1, h1, h2.2, fun y M' h => (by cases h; rfl)⟩
/-- where one name and its value are read. -/
def pairS (names : List Bs) (t : Bs) (s : St) : St := spS (mustS 58 (spS (dupS names t s)))
theorem oneO_eq {p : P Js} {names : List Bs} {kids : List Js} {L : Bs} {t : Bs} (ht : ∀ y M, textP L = .ok (y, M) → t = y) : oneO p (names, kids) L = match stP p (pairS names t (stOf (textP L))) with
    | .error e => .error e
    | .ok (x, K) => .ok ((names ++ [t], kids ++ [x]), K) := by
  unfold oneO
  cases hx : textP L with
  | error d => rfl
  | ok q =>
    obtain ⟨y, M⟩ := q
    obtain rfl := ht y M hx
    dsimp only
    show _ = match stP p (pairS names t (.ok M)) with
      | .error e => Except.error e
      | .ok (x, K) => .ok ((names ++ [t], kids ++ [x]), K)
    unfold pairS dupS
    cases hc : names.contains t with
    | true => rfl
    | false =>
      dsimp only
      rw [if_neg (by decide), if_neg (by decide)]
      show _ = match stP p (spS (mustS 58 (.ok (sp M)))) with
        | .error e => Except.error e
        | .ok (x, K) => .ok ((names ++ [t], kids ++ [x]), K)
      unfold pairTail
      cases sp M with
      | nil => rfl
      | cons c K =>
        dsimp only
        by_cases h58 : c = 58
        · subst h58
          rw [mustS_hit, if_pos (by decide)]
          rfl
        · rw [if_neg (by simpa using h58), show mustS 58 (.ok (c :: K)) = .error 3 from if_neg h58]
          rfl
theorem dupS_nil (t : Bs) (s : St) : dupS [] t s = s := by
  cases s with
  | ok M => rfl
  | error d => rfl
theorem dupS_cons {n t : Bs} {l : List Bs} {M : Bs} (h : (n == t) = false) : dupS (n :: l) t (.ok M) = dupS l t (.ok M) := by
  show (if (n :: l).contains t then _ else _) = (if l.contains t then _ else _)
  rw [List.contains_cons, show (t == n) = false by
    rw [beq_eq_false_iff_ne] at h ⊢
    exact fun e => h e.symm, Bool.false_or]
theorem dupS_hit {n t : Bs} {l : List Bs} {M : Bs} (h : n = t) : dupS (n :: l) t (.ok M) = .error 7 := by
  show (if (n :: l).contains t then _ else _) = _
  rw [List.contains_cons, h, beq_self_eq_true, Bool.true_or, if_pos rfl]
end Go.Proofs.YtminegmjklehnaaGreatDoor.J

/-
  The document's reader of JSON: list.
-/
namespace Go.Proofs.YtminegmjklehnaaGreatDoor.J
open Go.RowKit Go.Proofs.YtminegmjklehnaaGreatDoor.B
open Go.Proofs.YtminegmjklehnaaGreatDoor.M hiding Bs
open Go.Proofs.YtminegmjklehnaaGreatDoor.C (QRow Turn)
set_option linter.unusedVariables false
set_option linter.unusedSimpArgs false

abbrev jWorld (w : World) (k : Int) : World := (w.alloc (.cells (jcs 0 0 [] none 0 0 none 0 0) 27)).alloc (.cells (jcs k 0 [] none 0 0 none 0 0) 27)
set_option maxRecDepth 100000 in
set_option maxHeartbeats 16000000 in
theorem rlist_calls {p : P Js} {deep : Int} (hv : RVSpec p deep) (hp : Less p) {w : World} {rb : Nat} {b L : Bs} (h : RS w rb b (.ok (91 :: L))) :
    Calls Tryz.prog 51 #[.pointer (some ⟨rb, 0, none⟩), .int .i64 deep] w (VlRet w rb b (listP p L)) := by
  obtain ⟨i0, hi, hz0, hz1, hz2⟩ := info_parts infoJson
  have HI := Lib.hid hi; clear hi
  have HZ0 := Lib.hid hz0; clear hz0
  have HZ1 := Lib.hid hz1; clear hz1
  have HZ2 := Lib.hid hz2; clear hz2
  have hrl := h.lt
  have hll := h.len
  have HV := Lib.hid hv
  have HST := Lib.hid (oneL_steps hp)
  obtain ⟨RR, hRR⟩ : ∃ RR, insideP (oneL p) 93 [] L = RR := ⟨_, rfl⟩
  have HOUT := Lib.hid (show listP p L = outL RR by
    rw [← hRR]
    unfold listP outL
    rfl)
  have hgf := go_first (endc := 93) (a := []) (L := L) (oneL_steps hp) (by decide)
  rw [hRR] at hgf
  have HF1 := Lib.hid hgf.1
  have HF2 := Lib.hid hgf.2
  obtain ⟨q1, q2, q3⟩ := two_boxes (Below.refl (jWorld w 4).heap.size (jWorld w 4))
  have HR0 := Lib.hid (h.below q3)
  have HQ0 := Lib.hid q1
  have HD0 := Lib.hid (DO.start q2)
  have HA0 := Lib.hid (at_below (rb := rb) q3)
  have HMK := Lib.hid (mustS_hit 91 L)
  clear hv hp h hRR hgf q1 q2 q3
  go_enter Tryz.func51, Tryz.ntmps51
  go_wp2_with fail
  refine (rmust_calls HR0.out 91 (by decide) 91 rfl).mono ?_
  rintro e w1 ⟨rfl, hR, hA⟩
  rw [HMK.out] at hR
  have HR1 := Lib.hid hR
  have HA1 := Lib.hid (At.trans HA0.out hA)
  have HQ1 := Lib.hid ((hA.block _ (lt_of_heap HQ0.out) (by omega)).trans HQ0.out)
  have HD1 := Lib.hid (HD0.out.at (by omega) hA)
  clear hR hA
  go_wp2_with fail
  refine (rspace_calls HR1.out).mono ?_
  rintro e w2 ⟨rfl, hR, hA⟩
  have HR2 := Lib.hid (show RS w2 rb b (.ok (sp L)) from hR)
  have HA2 := Lib.hid (At.trans HA1.out hA)
  have HQ2 := Lib.hid ((hA.block _ (lt_of_heap HQ1.out) (by omega)).trans HQ1.out)
  have HD2 := Lib.hid (HD1.out.at (by omega) hA)
  clear hR hA
  go_wp2_with fail
  refine (next_calls HR2.out).mono ?_
  rintro e w3 ⟨rfl, hR, hB⟩
  have HR3 := Lib.hid hR
  have HA3 := Lib.hid (At.below' HA2.out hB)
  have HQ3 := Lib.hid ((hB.block _ (lt_of_heap HQ2.out)).trans HQ2.out)
  have HD3 := Lib.hid (HD2.out.at (by omega) (at_below (rb := rb) hB))
  clear hR hB
  by_cases h93 : headV (.ok (sp L)) = 93
  · obtain ⟨K, hK⟩ := headV_hit (c := 93) (by decide) (h93.trans (by rfl))
    have hb93 : (headV (.ok (sp L)) == 93) = true := by rw [h93]; rfl
    injection hK with hK
    have HE := Lib.hid (HF1.out K hK)
    rw [hK] at HR3
    obtain ⟨k, g1, f1, hk, hR, hA⟩ := HR3.out.step
    have HD4 := HD3.out.at (by omega) hA
    have HQ4 := ((hA.block _ (lt_of_heap HQ3.out) (by omega)).trans HQ3.out)
    have hfin := dl_end hrl HQ4 HD4 (At.trans HA3.out hA) hR
    have HFIN := Lib.hid hfin
    obtain ⟨r0, r1, r2, r3, r4, fq0, fq1, fq2, fq3, fq4⟩ := five_of HQ4
    obtain ⟨j0, j1, j2, j3, j4, fj0, fj1, fj2, fj3, fj4⟩ := five_of HD4.jc
    clear hK hR hA HD4 HQ4 hfin h93
    go_wp2
    have hfin := HFIN.out _ rfl
    refine bodyPost_ret (results_cell_row rfl _ _ w.heap.size 27 (jcs 4 0 [] none 0 0 none 0 0) (0, 0) _ rfl hfin.2.2.2 Tryz.underlying27 rfl (by kernel_rfl)) rfl ?_
    rw [HOUT.out, HE.out]
    exact ⟨_, _, _, _, _, _, _, _, _, _, rfl, hfin.1, hfin.2.1, rfl, hfin.2.2.1⟩
  · have hb93 : (headV (.ok (sp L)) == 93) = false := beq_eq_false_iff_ne.2 h93
    have HG := Lib.hid (HF2.out h93).symm
    have hsl := sp_le L
    clear h93
    go_wp2_with fail
    go_loopg [6] ((sp L).length) (fun q v6 wr => ∃ (acc : List Js) (L' : Bs) (B : Option Addr) (bc : Nat), L'.length = q ∧ Hid (RS wr rb b (.ok L')) ∧ Hid (At rb w wr) ∧ Hid (wr.heap[w.heap.size]? = some (.cells (jcs 0 0 [] none 0 0 none 0 0) 27 (0, 0))) ∧ Hid (DO 4 (w.heap.size + 1) (w.heap.size + 1) [] acc none 0 B bc wr) ∧ Hid (goS (oneL p) 93 acc (.ok L') = RR) ∧ acc.length + L'.length ≤ 100000)
    case atStart => exact ⟨[], sp L, none, 0, rfl, HR3, HA3, HQ3, HD3, HG, by simp at hll ⊢; omega⟩
    case round =>
      clear HR3 HA3 HQ3 HD3 HG HR2 HA2 HQ2 HD2 HR1 HA1 HQ1 HD1 HR0 HA0 HQ0 HD0 hb93 hsl
      obtain ⟨acc, L', B, bc, hq, HR, HA, HQ, HD, HG, hbnd⟩ := hrel
      have HLQ := Lib.hid hq
      clear hq
      have hec := HR.out.err
      have hd : (errV (.ok L') == 0) = true := rfl
      go_wp2_with fail
      refine (HV.out _ rb b _ HR.out).mono ?_
      intro e w4 h4
      obtain ⟨x, xk, xn, xt, xA, xan, xac, xB, xbn, xbc, rfl, hA, hx, hR, hxx⟩ := h4.st
      obtain ⟨s2, hs2⟩ : ∃ s2, stOf (p L') = s2 := ⟨_, rfl⟩
      have hR : RS w4 rb b s2 := by rw [← hs2]; exact hR
      have HSTEP := Lib.hid (go_step HST.out HG.out (acc' := acc ++ [x]) (s2 := s2) (by
        rw [← hs2]
        unfold oneL
        cases p L' with
        | error d => rfl
        | ok q => rfl) (fun a M hh => by
        unfold oneL at hh
        cases hpp : p L' with
        | error d => rw [hpp] at hh; cases hh
        | ok q =>
          rw [hpp] at hh
          injection hh with hh
          injection hh with h1 h2
          rw [← h1, hxx q.1 q.2 (by show p L' = _; rw [hpp])]))
      have hD4 := HD.out.at (by omega) hA
      obtain ⟨dss, hd1, hd2, hd3⟩ := hD4.rowB
      have HHD := Lib.hid hD4
      have HD1 := Lib.hid hd1
      have HD3 := Lib.hid hd3
      have HX := Lib.hid hx
      have HR4 := Lib.hid hR
      have HA4 := Lib.hid hA
      have HQR := Lib.hid (fun X (hT : Turn (fun _ => False) w4 X) => qturned hd2 hT (fun _ _ h => h))
      obtain ⟨j0, j1, j2, j3, j4, fj0, fj1, fj2, fj3, fj4⟩ := five_of hD4.jc
      have j4' := cellAlloc j4 (.cells #[.int .i64 xk, .int .i64 xn, vs xt, .slice xA xan xac, .slice xB xbn xbc] 27)
      have HS5 : Hid (∀ u ∈ [Value.int .i64 xk, .int .i64 xn, vs xt, .slice xA xan xac, .slice xB xbn xbc], u.oneCell' = true) := Lib.hid (fun u hu => by
          simp at hu
          rcases hu with rfl | rfl | rfl | rfl | rfl <;> rfl)
      clear hD4 hd1 hd2 hd3 hx hR hA h4 hs2 hxx hec hd
      go_wp2_with (at_builtin; go_loud (refine C.wpList_append_q rfl _ _ 25 rfl 27 i0 (.agg #[.int .i64 0, .int .i64 0, .string ⟨#[]⟩, .slice none 0 0, .slice none 0 0]) 5 80 Tryz.underlying25 HI.out HZ0.out HZ1.out HZ2.out rfl (by decide) (.slice B acc.length bc) acc.length dss.flatten rfl (HQR.out _ ?tt) _ 1 1 [.int .i64 xk, .int .i64 xn, vs xt, .slice xA xan xac, .slice xB xbn xbc] rfl rfl ?nn HS5.out ?m1 ?m2 ?_))
      case tt => exact turn_then (Turn.alloc _ _) (Turn.alloc _ _)
      case nn => exact news_kept (w := w4) (v := .slice none 0 0) (fun g hg => by cases hg) (asz _ _) (le_alloc _ _) (Turn.refl _ _)
      case m1 => unfold maxLen; omega
      case m2 => omega
      intro v6 w6 hq6 hg6 hn6
      have hT46 : Turn (fun _ => False) w4 ((w4.alloc (.cells #[.int .i64 xk, .int .i64 xn, vs xt, .slice xA xan xac, .slice xB xbn xbc] 27)).alloc (.cells #[.int .i64 xk, .int .i64 xn, vs xt, .slice xA xan xac, .slice xB xbn xbc] 27)) := turn_then (Turn.alloc _ _) (Turn.alloc _ _)
      have hjr := lt_of_heap HD.out.jc
      have hgB := fun g (hg : own B acc.length bc = some g) => HD.out.gB g hg
      have hpush := HHD.out.pushK HD1.out HD3.out (HX.out.turn (Turn.refl (fun _ => False) w4) (fun b hb _ => ⟨fun h => h, by omega, by omega, fun hg => (by cases hg), fun hg => by have := HD.out.rowB.block_lt hg; omega⟩)) hT46 ⟨grown_turn hg6, hq6, fun g hg => (hn6 g hg).imp id (fun h => by rw [asz, asz]; exact h)⟩
      obtain ⟨B', bc', rfl, hDO, hTW⟩ := hpush
      have hT6 : Turn (fun b => some b = own B acc.length bc) w4 w6 := Turn.trans (Turn.mono hT46 (fun _ h _ => h.elim)) (grown_turn hg6) (fun b hb _ => hb)
      obtain ⟨m0, m1, m2, m3, m4, fm0, fm1, fm2, fm3, fm4⟩ := five_of (HHD.out.jc6 hT6 (fun e => (hgB _ e.symm).2 rfl))
      have HDW := Lib.hid hDO
      have HRW := Lib.hid (HR4.out.turn hTW (fun g hg hl e => by
        rcases e with e | e
        · omega
        · have := hgB _ e.symm; omega))
      have HAW := Lib.hid (Turn.trans (Turn.trans HA.out HA4.out (fun _ h _ => h)) hTW (fun k hk hlt => by
        rcases hk with e | e
        · omega
        · have := hgB _ e.symm; omega) : At rb w _)
      have hq4 := (HA4.out.block _ (lt_of_heap HQ.out) (by omega)).trans HQ.out
      have HQW := Lib.hid ((hTW.block _ (lt_of_heap hq4) (fun e => by
        rcases e with e | e
        · omega
        · have := hgB _ e.symm; omega)).trans hq4)
      clear hq6 hg6 hn6 hT46 hjr hgB hDO hTW hT6 hq4 j0 j1 j2 j3 j4 fj0 fj1 fj2 fj3 fj4 j4'
      go_wp2_with fail
      refine (rspace_calls HRW.out).mono ?_
      rintro e w7 ⟨rfl, hR, hA⟩
      have HR7 := Lib.hid hR
      have HA7 := Lib.hid (At.trans HAW.out hA)
      have HQ7 := Lib.hid ((hA.block _ (lt_of_heap HQW.out) (by omega)).trans HQW.out)
      have HD7 := Lib.hid (HDW.out.at (by omega) hA)
      clear hR hA m0 m1 m2 m3 m4 fm0 fm1 fm2 fm3 fm4
      go_wp2_with fail
      refine (next_calls HR7.out).mono ?_
      rintro e w8 ⟨rfl, hR, hB⟩
      have HR8 := Lib.hid hR
      have HA8 := Lib.hid (At.below' HA7.out hB)
      have HQ8 := Lib.hid ((hB.block _ (lt_of_heap HQ7.out)).trans HQ7.out)
      have HD8 := Lib.hid (HD7.out.at (by omega) (at_below (rb := rb) hB))
      clear hR hB
      by_cases h44 : headV (spS s2) = 44
      · obtain ⟨K, hK⟩ := headV_hit (c := 44) (by decide) (h44.trans (by rfl))
        have hb44 : (headV (spS s2) != 44) = false := by rw [h44]; rfl
        obtain ⟨hgo, hlt⟩ := HSTEP.out.1 K hK
        have HGO := Lib.hid hgo
        have HLT := Lib.hid hlt
        rw [hK] at HR8
        obtain ⟨k, g1, f1, hk, hR, hA⟩ := HR8.out.step
        have HR9 := Lib.hid hR
        have HA9 := Lib.hid (At.trans HA8.out hA)
        have HQ9 := Lib.hid ((hA.block _ (lt_of_heap HQ8.out) (by omega)).trans HQ8.out)
        have HD9 := Lib.hid (HD8.out.at (by omega) hA)
        clear hK hgo hlt hR hA h44
        go_wp2_with fail
        refine (rspace_calls HR9.out).mono ?_
        rintro e w10 ⟨rfl, hR, hA⟩
        have HR10 := Lib.hid (show RS w10 rb b (.ok (sp K)) from hR)
        have HA10 := Lib.hid (At.trans HA9.out hA)
        have HQ10 := Lib.hid ((hA.block _ (lt_of_heap HQ9.out) (by omega)).trans HQ9.out)
        have HD10 := Lib.hid (HD9.out.at (by omega) hA)
        clear hR hA
        go_wp2
        go_roundg ((sp K).length)
        case measure => have h1 := HLQ.out; have h2 := HLT.out; omega
        case rel => exact ⟨acc ++ [x], sp K, B', bc', rfl, HR10, HA10, HQ10, HD10, HGO, by have h2 := HLT.out; rw [List.length_append]; simp; omega⟩
      · have hb44 : (headV (spS s2) != 44) = true := bne_iff_ne.2 h44
        have HEND := Lib.hid (HSTEP.out.2 h44)
        clear h44
        go_wp2_with fail
        refine (rmust_calls HR8.out 93 (by decide) 93 rfl).mono ?_
        rintro e w9 ⟨rfl, hR, hA⟩
        have hD9 := HD8.out.at (by omega) hA
        have hQ9 := ((hA.block _ (lt_of_heap HQ8.out) (by omega)).trans HQ8.out)
        have HFIN := Lib.hid (dl_end hrl hQ9 hD9 (At.trans HA8.out hA) hR)
        obtain ⟨r0, r1, r2, r3, r4, fq0, fq1, fq2, fq3, fq4⟩ := five_of hQ9
        obtain ⟨j0, j1, j2, j3, j4, fj0, fj1, fj2, fj3, fj4⟩ := five_of hD9.jc
        obtain ⟨n9, hn9⟩ : ∃ n, (acc ++ [x]).length = n := ⟨_, rfl⟩
        rw [hn9] at j4 HFIN
        obtain ⟨sf, hsf⟩ : ∃ sf, mustS 93 (spS s2) = sf := ⟨_, rfl⟩
        rw [hsf] at HFIN HEND
        clear hR hA hD9 hQ9 hn9 hsf
        go_wp2
        have hfin := HFIN.out _ rfl
        refine bodyPost_ret (results_cell_row rfl _ _ w.heap.size 27 (jcs 4 0 [] none 0 0 B' n9 bc') (0, 0) _ rfl hfin.2.2.2 Tryz.underlying27 rfl (by kernel_rfl)) rfl ?_
        rw [HOUT.out, HEND.out]
        cases sf with
        | ok K => exact ⟨manyJ 4 [] (acc ++ [x]), 4, 0, [], none, 0, 0, B', n9, bc', rfl, hfin.1, hfin.2.1, rfl, hfin.2.2.1⟩
        | error d => exact ⟨manyJ 4 [] (acc ++ [x]), 4, 0, [], none, 0, 0, B', n9, bc', rfl, hfin.1, hfin.2.1, hfin.2.2.1⟩
end Go.Proofs.YtminegmjklehnaaGreatDoor.J

/-
  The document's reader of JSON: object.
-/
namespace Go.Proofs.YtminegmjklehnaaGreatDoor.J
open Go.RowKit Go.Proofs.YtminegmjklehnaaGreatDoor.B
open Go.Proofs.YtminegmjklehnaaGreatDoor.M hiding Bs
open Go.Proofs.YtminegmjklehnaaGreatDoor.C (QRow Turn)
set_option linter.unusedVariables false
set_option linter.unusedSimpArgs false

set_option maxRecDepth 100000 in
set_option maxHeartbeats 16000000 in
theorem robject_calls {p : P Js} {deep : Int} (hv : RVSpec p deep) (hp : Less p) {w : World} {rb : Nat} {b L : Bs} (h : RS w rb b (.ok (123 :: L))) :
    Calls Tryz.prog 52 #[.pointer (some ⟨rb, 0, none⟩), .int .i64 deep] w (VlRet w rb b (objP p L)) := by
  obtain ⟨i0, hi, hz0, hz1, hz2⟩ := info_parts infoJson
  have HI := Lib.hid hi; clear hi
  have HZ0 := Lib.hid hz0; clear hz0
  have HZ1 := Lib.hid hz1; clear hz1
  have HZ2 := Lib.hid hz2; clear hz2
  obtain ⟨s0, hi, hz0, hz1, hz2⟩ := info_parts infoStr
  have HSI := Lib.hid hi; clear hi
  have HSZ0 := Lib.hid hz0; clear hz0
  have HSZ1 := Lib.hid hz1; clear hz1
  have HSZ2 := Lib.hid hz2; clear hz2
  have hrl := h.lt
  have hll := h.len
  have HV := Lib.hid hv
  have HST := Lib.hid (oneO_steps hp)
  obtain ⟨RR, hRR⟩ : ∃ RR, insideP (oneO p) 125 ([], []) L = RR := ⟨_, rfl⟩
  have HOUT := Lib.hid (show objP p L = outO RR by
    rw [← hRR]
    unfold objP outO
    rfl)
  have hgf := go_first (endc := 125) (a := ([], [])) (L := L) (oneO_steps hp) (by decide)
  rw [hRR] at hgf
  have HF1 := Lib.hid hgf.1
  have HF2 := Lib.hid hgf.2
  obtain ⟨q1, q2, q3⟩ := two_boxes (Below.refl (jWorld w 5).heap.size (jWorld w 5))
  have HR0 := Lib.hid (h.below q3)
  have HQ0 := Lib.hid q1
  have HD0 := Lib.hid (DO.start q2)
  have HA0 := Lib.hid (at_below (rb := rb) q3)
  have HMK := Lib.hid (mustS_hit 123 L)
  clear hv hp h hRR hgf q1 q2 q3
  go_enter Tryz.func52, Tryz.ntmps52
  go_wp2_with fail
  refine (rmust_calls HR0.out 123 (by decide) 123 rfl).mono ?_
  rintro e w1 ⟨rfl, hR, hA⟩
  rw [HMK.out] at hR
  have HR1 := Lib.hid hR
  have HA1 := Lib.hid (At.trans HA0.out hA)
  have HQ1 := Lib.hid ((hA.block _ (lt_of_heap HQ0.out) (by omega)).trans HQ0.out)
  have HD1 := Lib.hid (HD0.out.at (by omega) hA)
  clear hR hA
  go_wp2_with fail
  refine (rspace_calls HR1.out).mono ?_
  rintro e w2 ⟨rfl, hR, hA⟩
  have HR2 := Lib.hid (show RS w2 rb b (.ok (sp L)) from hR)
  have HA2 := Lib.hid (At.trans HA1.out hA)
  have HQ2 := Lib.hid ((hA.block _ (lt_of_heap HQ1.out) (by omega)).trans HQ1.out)
  have HD2 := Lib.hid (HD1.out.at (by omega) hA)
  clear hR hA
  go_wp2_with fail
  refine (next_calls HR2.out).mono ?_
  rintro e w3 ⟨rfl, hR, hB⟩
  have HR3 := Lib.hid hR
  have HA3 := Lib.hid (At.below' HA2.out hB)
  have HQ3 := Lib.hid ((hB.block _ (lt_of_heap HQ2.out)).trans HQ2.out)
  have HD3 := Lib.hid (HD2.out.at (by omega) (at_below (rb := rb) hB))
  clear hR hB
  by_cases h93 : headV (.ok (sp L)) = 125
  · obtain ⟨K, hK⟩ := headV_hit (c := 125) (by decide) (h93.trans (by rfl))
    have hb93 : (headV (.ok (sp L)) == 125) = true := by rw [h93]; rfl
    injection hK with hK
    have HE := Lib.hid (HF1.out K hK)
    rw [hK] at HR3
    obtain ⟨k, g1, f1, hk, hR, hA⟩ := HR3.out.step
    have HD4 := HD3.out.at (by omega) hA
    have HQ4 := ((hA.block _ (lt_of_heap HQ3.out) (by omega)).trans HQ3.out)
    have hfin := dl_end hrl HQ4 HD4 (At.trans HA3.out hA) hR
    have HFIN := Lib.hid hfin
    obtain ⟨r0, r1, r2, r3, r4, fq0, fq1, fq2, fq3, fq4⟩ := five_of HQ4
    obtain ⟨j0, j1, j2, j3, j4, fj0, fj1, fj2, fj3, fj4⟩ := five_of HD4.jc
    clear hK hR hA HD4 HQ4 hfin h93
    go_wp2
    have hfin := HFIN.out _ rfl
    refine bodyPost_ret (results_cell_row rfl _ _ w.heap.size 27 (jcs 5 0 [] none 0 0 none 0 0) (0, 0) _ rfl hfin.2.2.2 Tryz.underlying27 rfl (by kernel_rfl)) rfl ?_
    rw [HOUT.out, HE.out]
    exact ⟨manyJ 5 [] [], 5, 0, [], none, 0, 0, none, 0, 0, rfl, hfin.1, hfin.2.1, rfl, hfin.2.2.1⟩
  · have hb93 : (headV (.ok (sp L)) == 125) = false := beq_eq_false_iff_ne.2 h93
    have HG := Lib.hid (HF2.out h93).symm
    have hsl := sp_le L
    clear h93
    go_wp2_with fail
    go_loopg [6, 7, 8] ((sp L).length) (fun q v6 v7 v8 wr => ∃ (names : List Bs) (kids : List Js) (L' : Bs) (A : Option Addr) (ac : Nat) (B : Option Addr) (bc : Nat), L'.length = q ∧ Hid (RS wr rb b (.ok L')) ∧ Hid (At rb w wr) ∧ Hid (wr.heap[w.heap.size]? = some (.cells (jcs 0 0 [] none 0 0 none 0 0) 27 (0, 0))) ∧ Hid (DO 5 (w.heap.size + 1) (w.heap.size + 1) names kids A ac B bc wr) ∧ Hid (goS (oneO p) 125 (names, kids) (.ok L') = RR) ∧ names.length + L'.length ≤ 100000 ∧ kids.length = names.length)
    case atStart => exact ⟨[], [], sp L, none, 0, none, 0, rfl, HR3, HA3, HQ3, HD3, HG, by simp at hll ⊢; omega, rfl⟩
    case round =>
      clear HR3 HA3 HQ3 HD3 HG HR2 HA2 HQ2 HD2 HR1 HA1 HQ1 HD1 HR0 HA0 HQ0 HD0 hb93 hsl
      obtain ⟨names, kids, L', A, ac, B, bc, hq, HR, HA, HQ, HD, HG, hbnd, hkn⟩ := hrel
      have HLQ := Lib.hid hq
      have HKN := Lib.hid hkn
      have hkb : kids.length + L'.length ≤ 100000 := by omega
      clear hq hkn
      have hec := HR.out.err
      have hd : (errV (.ok L') == 0) = true := rfl
      go_wp2_with fail
      refine (rtext_calls HR.out).mono ?_
      intro e w4 h4
      obtain ⟨t, rfl, hA, hR, ht⟩ := h4.st
      obtain ⟨s1, hs1⟩ : ∃ s1, stOf (textP L') = s1 := ⟨_, rfl⟩
      have hR : RS w4 rb b s1 := by rw [← hs1]; exact hR
      have HONE := Lib.hid (oneO_eq (p := p) (names := names) (kids := kids) (L := L') (t := t) ht)
      rw [hs1] at HONE
      obtain ⟨S2, hS2⟩ : ∃ S2, dupS names t s1 = S2 := ⟨_, rfl⟩
      have HS2 := Lib.hid hS2
      have HR4 := Lib.hid hR
      have HA4 := Lib.hid (At.trans HA.out hA)
      have HQ4 := Lib.hid ((hA.block _ (lt_of_heap HQ.out) (by omega)).trans HQ.out)
      have HD4 := Lib.hid (HD.out.at (by omega) hA)
      clear hR hA hs1 hS2 h4 hec hd ht HR
      go_wp2_with fail
      go_loopw [7] (fun v7 wr => ∃ (k : Nat) (s' : St), k ≤ names.length ∧ v7 = .int .i64 k ∧ Hid (RS wr rb b s') ∧ Hid (At rb w4 wr) ∧ Hid (dupS (names.drop k) t s' = S2)) (fun v7 _ => names.length - (intOf v7).toNat)
      case atStart => exact ⟨0, s1, Nat.zero_le _, rfl, HR4, Lib.hid (At.refl _ _), HS2⟩
      case round =>
        obtain ⟨k, s', hk, rfl, HR5, HA5, HE5⟩ := hrel
        have hec := HR5.out.err
        have hd5 := HD4.out.at (by omega) HA5.out
        obtain ⟨j0, j1, j2, j3, j4, fj0, fj1, fj2, fj3, fj4⟩ := five_of hd5.jc
        have HD5 := Lib.hid hd5
        have HQ5 := Lib.hid ((HA5.out.block _ (lt_of_heap HQ4.out) (by omega)).trans HQ4.out)
        have HA5' := Lib.hid (At.trans HA4.out HA5.out)
        clear hd5
        by_cases hkl : k < names.length ∧ ∃ M, s' = .ok M
        · obtain ⟨hkl, M, rfl⟩ := hkl
          obtain ⟨n, hn⟩ : ∃ n, names[k]? = some n := ⟨names[k]'hkl, List.getElem?_eq_getElem hkl⟩
          have hdr : names.drop k = n :: names.drop (k + 1) := by
            rw [List.drop_eq_getElem_cons hkl]
            congr 1
            exact (List.getElem?_eq_some_iff.1 hn).2
          have hkl' : (k : Int) < (names.length : Int) := by omega
          have hd : (errV (.ok M) == 0) = true := rfl
          have hrow := (HD5.out.rowA.read (F := fun _ => True) (by decide) (fun _ _ => trivial))
          rw [hdr] at HE5
          obtain ⟨ad, pa, hA, hpa, -, c0⟩ := str_cell hrow hn
          subst hA
          cases hnt : (n == t) with
          | true =>
            have HH := Lib.hid (show S2 = .error 7 by rw [← HE5.out]; exact dupS_hit (eq_of_beq hnt))
            clear hrow hdr hn
            go_wp2_with fail
            refine (fail_calls HR5.out (d := 7) (by decide)).mono ?_
            rintro e w6 ⟨rfl, hR, hA⟩
            have HR6 := Lib.hid (show RS w6 rb b (.error 7) from hR)
            have HA6 := Lib.hid (At.trans HA5.out hA)
            clear hR hA
            go_wp2
            exact ⟨⟨k + 1, .error 7, by omega, by go_num, HR6, HA6, Lib.hid HH.out.symm⟩, by simp [intOf]; omega⟩
          | false =>
            have HE6 := Lib.hid (show dupS (names.drop (k + 1)) t (.ok M) = S2 by rw [← HE5.out, dupS_cons hnt])
            clear hrow hdr hn
            go_wp2
            exact ⟨⟨k + 1, .ok M, by omega, by go_num, HR5, HA5, HE6⟩, by simp [intOf]; omega⟩
        · have hway : (names.length ≤ k ∧ s' = S2) ∨ (k < names.length ∧ ∃ d, s' = .error d ∧ S2 = .error d) := by
            by_cases hkk : k < names.length
            · cases s' with
              | ok M => exact absurd ⟨hkk, M, rfl⟩ hkl
              | error d => exact .inr ⟨hkk, d, rfl, HE5.out.symm⟩
            · refine .inl ⟨by omega, ?_⟩
              have h1 := HE5.out
              rw [List.drop_eq_nil_of_le (by omega), dupS_nil] at h1
              exact h1
          have HR6 := Lib.hid (show RS wr rb b S2 by
            rcases hway with ⟨-, rfl⟩ | ⟨-, d, rfl, rfl⟩
            · exact HR5.out
            · exact HR5.out)
          obtain ⟨ev, hev⟩ : ∃ ev, errV s' = ev := ⟨_, rfl⟩
          rw [hev] at hec
          have hway2 : ((names.length : Int) ≤ k) ∨ ((k : Int) < names.length ∧ (ev == 0) = false) := by
            rcases hway with ⟨h1, -⟩ | ⟨h1, d, rfl, -⟩
            · exact .inl (by omega)
            · refine .inr ⟨by omega, ?_⟩
              rw [← hev]
              exact beq_eq_false_iff_ne.2 HR5.out.ne
          clear hway hkl hev HR5 HE5
          rcases hway2 with hk1 | ⟨hk1, hk2⟩
          all_goals
            go_wp2_with fail
            refine (rspace_calls HR6.out).mono ?_
            rintro e w7 ⟨rfl, hR, hA⟩
            have HR7 := Lib.hid hR
            have HA7 := Lib.hid (At.trans HA5'.out hA)
            have HQ7 := Lib.hid ((hA.block _ (lt_of_heap HQ5.out) (by omega)).trans HQ5.out)
            have HD7 := Lib.hid (HD5.out.at (by omega) hA)
            have HAA7 := Lib.hid (At.trans HA5.out hA)
            clear hR hA j0 j1 j2 j3 j4 fj0 fj1 fj2 fj3 fj4 hec
            go_wp2_with fail
            refine (rmust_calls HR7.out 58 (by decide) 58 rfl).mono ?_
            rintro e w8 ⟨rfl, hR, hA⟩
            have HR8 := Lib.hid hR
            have HA8 := Lib.hid (At.trans HA7.out hA)
            have HQ8 := Lib.hid ((hA.block _ (lt_of_heap HQ7.out) (by omega)).trans HQ7.out)
            have HD8 := Lib.hid (HD7.out.at (by omega) hA)
            clear hR hA
            go_wp2_with fail
            refine (rspace_calls HR8.out).mono ?_
            rintro e w9 ⟨rfl, hR, hA⟩
            have hR : RS w9 rb b (pairS names t s1) := by
              unfold pairS
              rw [HS2.out]
              exact hR
            have HA9 := Lib.hid (At.trans HA8.out hA)
            have HQ9 := Lib.hid ((hA.block _ (lt_of_heap HQ8.out) (by omega)).trans HQ8.out)
            have HD9 := Lib.hid (HD8.out.at (by omega) hA)
            obtain ⟨s4, hs4⟩ : ∃ s4, pairS names t s1 = s4 := ⟨_, rfl⟩
            rw [hs4] at hR HONE
            have HR9 := Lib.hid hR
            clear hR hA hs4
            go_wp2_with fail
            refine (HV.out _ rb b _ HR9.out).mono ?_
            intro e w10 h10
            obtain ⟨x, xk, xn, xt, xA, xan, xac, xB, xbn, xbc, rfl, hA, hx, hR, hxx⟩ := h10.st
            obtain ⟨s2, hs2⟩ : ∃ s2, stOf (stP p s4) = s2 := ⟨_, rfl⟩
            rw [hs2] at hR
            have HSTEP := Lib.hid (go_step HST.out HG.out (acc' := (names ++ [t], kids ++ [x])) (s2 := s2) (by
              rw [← hs2, HONE.out]
              cases stP p s4 with
              | error d => rfl
              | ok q => rfl) (fun a M hh => by
              rw [HONE.out] at hh
              cases hpp : stP p s4 with
              | error d => rw [hpp] at hh; cases hh
              | ok q =>
                rw [hpp] at hh
                injection hh with hh
                injection hh with h1 h2
                rw [← h1, hxx q.1 q.2 (by rw [hpp])]))
            have HR10 := Lib.hid hR
            have HA10 := Lib.hid (At.trans HA9.out hA)
            have HQ10 := Lib.hid ((hA.block _ (lt_of_heap HQ9.out) (by omega)).trans HQ9.out)
            have HD10 := Lib.hid (HD9.out.at (by omega) hA)
            have HX10 := Lib.hid hx
            have hs10 := hA.size
            clear hR hA hx hs2 hxx h10
            have hjr := lt_of_heap HD9.out.jc
            have hgA9 := fun g (hg : own A names.length ac = some g) => And.intro (HD9.out.gA g hg) (HD9.out.rowA.block_lt hg)
            have hgB9 := fun g (hg : own B kids.length bc = some g) => And.intro (HD9.out.gB g hg) (HD9.out.rowB.block_lt hg)
            have hav : Turn (fun _ => False) w10 (w10.alloc (.cells #[.int .i64 xk, .int .i64 xn, vs xt, .slice xA xan xac, .slice xB xbn xbc] 27)) := Turn.alloc _ _
            have hDV := HD10.out.turn hav (fun _ _ _ h => h)
            obtain ⟨css, hc1, hc2, hc3⟩ := hDV.rowA
            have HDV := Lib.hid hDV
            have HC1 := Lib.hid hc1
            have HC3 := Lib.hid hc3
            have HXV := Lib.hid (HX10.out.turn hav (F' := fun b => w9.heap.size ≤ b) (fun b hb _ => ⟨fun h => h, hb⟩))
            have HBX := Lib.hid (heap_alloc_new w10 (.cells #[.int .i64 xk, .int .i64 xn, vs xt, .slice xA xan xac, .slice xB xbn xbc] 27))
            have HRV := Lib.hid (HR10.out.turn hav (fun _ _ _ h => h))
            have HAV := Lib.hid (At.trans HA10.out (Turn.alloc w10 (.cells #[.int .i64 xk, .int .i64 xn, vs xt, .slice xA xan xac, .slice xB xbn xbc] 27)))
            have HQV := Lib.hid ((hav.block _ (lt_of_heap HQ10.out) (fun h => h)).trans HQ10.out)
            have HQRA := Lib.hid (fun X (hT : Turn (fun _ => False) (w10.alloc (.cells #[.int .i64 xk, .int .i64 xn, vs xt, .slice xA xan xac, .slice xB xbn xbc] 27)) X) => qturned hc2 hT (fun _ _ h => h))
            have HS5 : Hid (∀ u ∈ [Value.int .i64 xk, .int .i64 xn, vs xt, .slice xA xan xac, .slice xB xbn xbc], u.oneCell' = true) := Lib.hid (fun u hu => by
                simp at hu
                rcases hu with rfl | rfl | rfl | rfl | rfl <;> rfl)
            have HS1 : Hid (∀ u ∈ [vs t], u.oneCell' = true) := Lib.hid (fun u hu => by rw [List.mem_singleton.1 hu]; rfl)
            obtain ⟨j0, j1, j2, j3, j4, fj0, fj1, fj2, fj3, fj4⟩ := five_of hDV.jc
            clear hav hDV hc1 hc2 hc3
            go_wp2_with (at_builtin; go_loud (refine C.wpList_append_q rfl _ _ 24 rfl 9 s0 (.string ⟨#[]⟩) 1 16 Tryz.underlying24 HSI.out HSZ0.out HSZ1.out HSZ2.out rfl (by decide) (.slice A names.length ac) names.length css.flatten rfl (HQRA.out _ ?tt) _ 1 1 [vs t] rfl rfl ?nn HS1.out ?m1 ?m2 ?_))
            case tt => exact Turn.alloc _ _
            case nn => exact news_kept (w := w10) (v := .slice none 0 0) (fun g hg => by cases hg) (asz _ _) (le_alloc _ _) (Turn.refl _ _)
            case m1 => unfold maxLen; omega
            case m2 => omega
            intro v11 w11 hq11 hg11 hn11
            have hpush := HDV.out.pushN HC1.out HC3.out (Turn.alloc _ _) ⟨grown_turn hg11, hq11, fun g hg => (hn11 g hg).imp id (fun h => by rw [asz, asz]; exact h)⟩
            obtain ⟨A', ac', rfl, hDO, hTW⟩ := hpush
            have hT11 : Turn (fun b => some b = own A names.length ac) (w10.alloc (.cells #[.int .i64 xk, .int .i64 xn, vs xt, .slice xA xan xac, .slice xB xbn xbc] 27)) w11 := Turn.trans (Turn.mono (Turn.alloc (fp := fun _ => False) _ _) (fun _ h _ => h.elim)) (grown_turn hg11) (fun b hb _ => hb)
            obtain ⟨m0, m1, m2, m3, m4, fm0, fm1, fm2, fm3, fm4⟩ := five_of (HDV.out.jc6 hT11 (fun e => (hgA9 _ e.symm).1.2 rfl))
            have hbw := (hTW.block w10.heap.size (lt_of_heap HBX.out) (fun e => by
              rcases e with e | e
              · omega
              · have := hgA9 _ e.symm; omega)).trans HBX.out
            obtain ⟨x0, x1, x2, x3, x4, -⟩ := five_of hbw
            obtain ⟨n0, n1, n2, n3, n4, fn0, fn1, fn2, fn3, fn4⟩ := five_of hDO.jc
            have HXW := Lib.hid (HXV.out.turn hTW (F' := KD (w.heap.size + 1) (w.heap.size + 1) (own A' (names ++ [t]).length ac') (own B kids.length bc)) (fun b (hb : w9.heap.size ≤ b) hlb => ⟨fun e => by
              rcases e with e | e
              · omega
              · have := hgA9 _ e.symm; omega, by omega, by omega, fun hg => by
              rw [List.length_append] at hg
              rcases hn11 b hg with hg | hg
              · have := hgA9 _ hg; omega
              · rw [asz] at hlb; omega, fun hg => by have := hgB9 _ hg; omega⟩))
            have HDW := Lib.hid hDO
            have HRW := Lib.hid (HRV.out.turn hTW (fun g hg hl e => by
              rcases e with e | e
              · omega
              · have := hgA9 _ e.symm; omega))
            have HAW := Lib.hid (Turn.trans HAV.out hTW (fun k hk hlt => by
              rcases hk with e | e
              · omega
              · have := hgA9 _ e.symm; omega) : At rb w _)
            have HQW := Lib.hid ((hTW.block _ (lt_of_heap HQV.out) (fun e => by
              rcases e with e | e
              · omega
              · have := hgA9 _ e.symm; omega)).trans HQV.out)
            obtain ⟨dss, hd1, hd2, hd3⟩ := hDO.rowB
            have HD1 := Lib.hid hd1
            have HD3 := Lib.hid hd3
            have HQRB := Lib.hid (fun X (hT : Turn (fun _ => False) (w11.setCell ⟨w.heap.size + 1, 3, none⟩ (.slice A' (names.length + 1) ac')) X) => qturned hd2 hT (fun _ _ h => h))
            have hgA' : ∀ g, own A' (names ++ [t]).length ac' = some g → w.heap.size + 1 ≤ g := fun g hg => (hDO.gA g hg).1
            clear hq11 hg11 hn11 hDO hTW hT11 hbw hd1 hd2 hd3 j0 j1 j2 j3 j4 fj0 fj1 fj2 fj3 fj4
            go_wp2_with (at_builtin; go_loud (refine C.wpList_append_q rfl _ _ 25 rfl 27 i0 (.agg #[.int .i64 0, .int .i64 0, .string ⟨#[]⟩, .slice none 0 0, .slice none 0 0]) 5 80 Tryz.underlying25 HI.out HZ0.out HZ1.out HZ2.out rfl (by decide) (.slice B kids.length bc) kids.length dss.flatten rfl (HQRB.out _ ?tt) _ 1 1 [.int .i64 xk, .int .i64 xn, vs xt, .slice xA xan xac, .slice xB xbn xbc] rfl rfl ?nn HS5.out ?m1 ?m2 ?_))
            case tt => exact Turn.alloc _ _
            case nn => exact news_kept (w := (w11.setCell ⟨w.heap.size + 1, 3, none⟩ (.slice A' (names.length + 1) ac'))) (v := .slice none 0 0) (fun g hg => by cases hg) (by simp) (Nat.le_refl _) (Turn.refl _ _)
            case m1 => unfold maxLen; omega
            case m2 => omega
            intro v12 w12 hq12 hg12 hn12
            have hpush := HDW.out.pushK HD1.out HD3.out HXW.out (Turn.alloc _ _) ⟨grown_turn hg12, hq12, fun g hg => (hn12 g hg).imp id (fun h => by rw [asz]; simpa using h)⟩
            obtain ⟨B', bc', rfl, hDO, hTW⟩ := hpush
            have hT12 : Turn (fun b => some b = own B kids.length bc) (w11.setCell ⟨w.heap.size + 1, 3, none⟩ (.slice A' (names.length + 1) ac')) w12 := Turn.trans (Turn.mono (Turn.alloc (fp := fun _ => False) _ _) (fun _ h _ => h.elim)) (grown_turn hg12) (fun b hb _ => hb)
            obtain ⟨p0, p1, p2, p3, p4, fp0, fp1, fp2, fp3, fp4⟩ := five_of (HDW.out.jc6 hT12 (fun e => (hgB9 _ e.symm).1.2 rfl))
            have HDZ := Lib.hid hDO
            have HRZ := Lib.hid (HRW.out.turn hTW (fun g hg hl e => by
              rcases e with e | e
              · omega
              · have := hgB9 _ e.symm; omega))
            have HAZ := Lib.hid (Turn.trans HAW.out hTW (fun k hk hlt => by
              rcases hk with e | e
              · omega
              · have := hgB9 _ e.symm; omega) : At rb w _)
            have HQZ := Lib.hid ((hTW.block _ (lt_of_heap HQW.out) (fun e => by
              rcases e with e | e
              · omega
              · have := hgB9 _ e.symm; omega)).trans HQW.out)
            clear hq12 hg12 hn12 hDO hTW hT12 hgA' hgA9 hgB9 hjr x0 x1 x2 x3 x4 m0 m1 m2 m3 m4 fm0 fm1 fm2 fm3 fm4 n0 n1 n2 n3 n4 fn0 fn1 fn2 fn3 fn4
            go_wp2_with fail
            refine (rspace_calls HRZ.out).mono ?_
            rintro e w13 ⟨rfl, hR, hA⟩
            have HR13 := Lib.hid hR
            have HA13 := Lib.hid (At.trans HAZ.out hA)
            have HQ13 := Lib.hid ((hA.block _ (lt_of_heap HQZ.out) (by omega)).trans HQZ.out)
            have HD13 := Lib.hid (HDZ.out.at (by omega) hA)
            clear hR hA p0 p1 p2 p3 p4 fp0 fp1 fp2 fp3 fp4
            go_wp2_with fail
            refine (next_calls HR13.out).mono ?_
            rintro e w14 ⟨rfl, hR, hB⟩
            have HR14 := Lib.hid hR
            have HA14 := Lib.hid (At.below' HA13.out hB)
            have HQ14 := Lib.hid ((hB.block _ (lt_of_heap HQ13.out)).trans HQ13.out)
            have HD14 := Lib.hid (HD13.out.at (by omega) (at_below (rb := rb) hB))
            clear hR hB
            by_cases h44 : headV (spS s2) = 44
            · obtain ⟨K, hK⟩ := headV_hit (c := 44) (by decide) (h44.trans (by rfl))
              have hb44 : (headV (spS s2) != 44) = false := by rw [h44]; rfl
              obtain ⟨hgo, hlt⟩ := HSTEP.out.1 K hK
              have HGO := Lib.hid hgo
              have HLT := Lib.hid hlt
              rw [hK] at HR14
              obtain ⟨k, g1, f1, hk, hR, hA⟩ := HR14.out.step
              have HR15 := Lib.hid hR
              have HA15 := Lib.hid (At.trans HA14.out hA)
              have HQ15 := Lib.hid ((hA.block _ (lt_of_heap HQ14.out) (by omega)).trans HQ14.out)
              have HD15 := Lib.hid (HD14.out.at (by omega) hA)
              clear hK hgo hlt hR hA h44
              go_wp2_with fail
              refine (rspace_calls HR15.out).mono ?_
              rintro e w16 ⟨rfl, hR, hA⟩
              have HR16 := Lib.hid (show RS w16 rb b (.ok (sp K)) from hR)
              have HA16 := Lib.hid (At.trans HA15.out hA)
              have HQ16 := Lib.hid ((hA.block _ (lt_of_heap HQ15.out) (by omega)).trans HQ15.out)
              have HD16 := Lib.hid (HD15.out.at (by omega) hA)
              clear hR hA
              go_wp2
              go_roundg ((sp K).length)
              case measure => have h1 := HLQ.out; have h2 := HLT.out; omega
              case rel => exact ⟨names ++ [t], kids ++ [x], sp K, A', ac', B', bc', rfl, HR16, HA16, HQ16, HD16, HGO, by have h2 := HLT.out; rw [List.length_append]; simp; omega, by rw [List.length_append, List.length_append, HKN.out]; rfl⟩
            · have hb44 : (headV (spS s2) != 44) = true := bne_iff_ne.2 h44
              have HEND := Lib.hid (HSTEP.out.2 h44)
              clear h44
              go_wp2_with fail
              refine (rmust_calls HR14.out 125 (by decide) 125 rfl).mono ?_
              rintro e w15 ⟨rfl, hR, hA⟩
              have hD15 := HD14.out.at (by omega) hA
              have hQ15 := ((hA.block _ (lt_of_heap HQ14.out) (by omega)).trans HQ14.out)
              have HFIN := Lib.hid (dl_end hrl hQ15 hD15 (At.trans HA14.out hA) hR)
              obtain ⟨r0, r1, r2, r3, r4, fq0, fq1, fq2, fq3, fq4⟩ := five_of hQ15
              obtain ⟨j0, j1, j2, j3, j4, fj0, fj1, fj2, fj3, fj4⟩ := five_of hD15.jc
              obtain ⟨nk9, hn9⟩ : ∃ n, (kids ++ [x]).length = n := ⟨_, rfl⟩
              obtain ⟨na9, ha9⟩ : ∃ n, (names ++ [t]).length = n := ⟨_, rfl⟩
              rw [hn9] at j4 HFIN
              rw [ha9] at j3 HFIN
              obtain ⟨sf, hsf⟩ : ∃ sf, mustS 125 (spS s2) = sf := ⟨_, rfl⟩
              rw [hsf] at HFIN HEND
              clear hR hA hD15 hQ15 hn9 ha9 hsf
              go_wp2
              have hfin := HFIN.out _ rfl
              refine bodyPost_ret (results_cell_row rfl _ _ w.heap.size 27 (jcs 5 0 [] A' na9 ac' B' nk9 bc') (0, 0) _ rfl hfin.2.2.2 Tryz.underlying27 rfl (by kernel_rfl)) rfl ?_
              rw [HOUT.out, HEND.out]
              cases sf with
              | ok K => exact ⟨manyJ 5 (names ++ [t]) (kids ++ [x]), 5, 0, [], A', na9, ac', B', nk9, bc', rfl, hfin.1, hfin.2.1, rfl, hfin.2.2.1⟩
              | error d => exact ⟨manyJ 5 (names ++ [t]) (kids ++ [x]), 5, 0, [], A', na9, ac', B', nk9, bc', rfl, hfin.1, hfin.2.1, hfin.2.2.1⟩
end Go.Proofs.YtminegmjklehnaaGreatDoor.J

/-
  The document's reader of JSON: value. Printed by wip/tools/gen_jd_val.py.
-/
namespace Go.Proofs.YtminegmjklehnaaGreatDoor.J
open Go.RowKit Go.Proofs.YtminegmjklehnaaGreatDoor.B
open Go.Proofs.YtminegmjklehnaaGreatDoor.M hiding Bs
open Go.Proofs.YtminegmjklehnaaGreatDoor.C (QRow Turn)
set_option linter.unusedVariables false
set_option linter.unusedSimpArgs false

/-- the result, stored and read back. -/
theorem vl_end {w w4 : World} {rb : Nat} {b : Bs} {s : St} {x : Js} {k n : Int} {t : Bs} {A : Option Addr} {an ac : Nat} {B : Option Addr} {bn bc : Nat} {x0 x1 x2 x3 x4 : Value} (hrb : rb < w.heap.size) (hq : w4.heap[w.heap.size]? = some (.cells #[x0, x1, x2, x3, x4] 27 (0, 0))) (hV : JsV w4 (fun b => w.heap.size < b) x (jAgg k n t A an ac B bn bc)) (hA : At rb w w4) (hR : RS w4 rb b s) :
    ∀ W, W = (((((w4.setCell ⟨w.heap.size, 0, none⟩ (.int .i64 k)).setCell ⟨w.heap.size, 1, none⟩ (.int .i64 n)).setCell ⟨w.heap.size, 2, none⟩ (vs t)).setCell ⟨w.heap.size, 3, none⟩ (.slice A an ac)).setCell ⟨w.heap.size, 4, none⟩ (.slice B bn bc)) →
    At rb w W ∧ JsV W (fun b => w.heap.size ≤ b) x (jAgg k n t A an ac B bn bc) ∧ RS W rb b s ∧ W.heap[w.heap.size]? = some (.cells (jcs k n t A an ac B bn bc) 27 (0, 0)) := by
  rintro W rfl
  have hT := set5_turn (fp := fun k => k = w.heap.size) w4 w.heap.size rfl (.int .i64 k) (.int .i64 n) (vs t) (.slice A an ac) (.slice B bn bc)
  have h5 := set5 hq (.int .i64 k) (.int .i64 n) (vs t) (.slice A an ac) (.slice B bn bc)
  generalize (((((w4.setCell ⟨w.heap.size, 0, none⟩ (.int .i64 k)).setCell ⟨w.heap.size, 1, none⟩ (.int .i64 n)).setCell ⟨w.heap.size, 2, none⟩ (vs t)).setCell ⟨w.heap.size, 3, none⟩ (.slice A an ac)).setCell ⟨w.heap.size, 4, none⟩ (.slice B bn bc)) = W at *
  refine ⟨Turn.trans hA hT (fun b hb hlt => by omega), hV.turn hT (fun b hb _ => ⟨fun e => by omega, Nat.le_of_lt hb⟩), hR.turn hT (fun g hg _ e => by omega), h5⟩
theorem word_st {c : UInt8} {q : Bs} {j : Js} {L : Bs} : stP (wordP q j) (.ok L) = match wordS q (.ok L) with
    | .ok M => .ok (j, M)
    | .error d => .error d := by
  show wordP q j L = _
  rw [wordS_eq]
  unfold wordP
  split <;> rfl
theorem numS_val {inner : Option (P Js)} {s : St} {v : Int} (hv : headV s = v) (h1 : v ≠ 110) (h2 : v ≠ 116) (h3 : v ≠ 102) (h4 : v ≠ 34) (h5 : v ≠ 91) (h6 : v ≠ 123) : stP (valueOf inner) s = match numS s with
    | .ok (n, M) => .ok (leafJ 2 n [], M)
    | .error d => .error d := by
  cases s with
  | error d => rfl
  | ok L =>
    have hn : ∀ L, numJ L = match numS (.ok L) with
        | .ok (n, M) => .ok (leafJ 2 n [], M)
        | .error d => .error d := fun L => by
      show numJ L = match numP L with
        | .ok (n, M) => Except.ok (leafJ 2 n [], M)
        | .error d => .error d
      unfold numJ
      cases numP L with
      | error d => rfl
      | ok q => rfl
    cases L with
    | nil => exact hn []
    | cons c M =>
      have hk : ∀ k : UInt8, v ≠ (k.toNat : Int) → (c == k) = false := fun k hk => by
        rw [beq_eq_false_iff_ne]
        intro e
        subst e
        exact hk hv.symm
      show valueOf inner (c :: M) = _
      rw [valueOf_c, hk 110 h1, hk 116 h2, hk 102 h3, hk 34 h4, hk 91 h5, hk 123 h6]
      exact hn _
set_option maxRecDepth 100000 in
set_option maxHeartbeats 16000000 in
theorem rvalue_of_calls {inner : Option (P Js)} {deep : Int} (hd0 : 0 ≤ deep) (hd12 : deep ≤ 12) (hin : deep < 12 → RVSpec (inn inner) (deep + 1)) (hl : Less (inn inner)) (hsome : ∀ (k : P Js → P Js) (M : Bs), openP inner k M = if deep < 12 then k (inn inner) M else .error 9) : RVSpec (valueOf inner) deep := by
  intro w rb b s h
  have hrl := h.lt
  have hB1 : Below w.heap.size w (w.alloc (.cells (jcs 0 0 [] none 0 0 none 0 0) 27)) := (Below.refl _ w).alloc (Nat.le_refl _) _
  have HR0 := Lib.hid (h.below hB1)
  have HA0 := Lib.hid (at_below (rb := rb) hB1)
  have HQ0 := Lib.hid (heap_alloc_new w (.cells (jcs 0 0 [] none 0 0 none 0 0) 27))
  have HIN := Lib.hid hin
  have HL := Lib.hid hl
  have HSOME := Lib.hid hsome
  clear h hB1 hin hl hsome
  obtain ⟨v, hv⟩ : ∃ v, headV s = v := ⟨_, rfl⟩
  have hv0 := headV_lt s
  rw [hv] at hv0
  have HHV := Lib.hid hv
  clear hv
  by_cases h91 : v = 91
  · obtain ⟨M, rfl⟩ := headV_hit (c := 91) (by decide) (HHV.out.trans (h91.trans (by rfl)))
    subst h91
    have HVAL := Lib.hid (show stP (valueOf inner) (.ok (91 :: M)) = (if deep < 12 then listP (inn inner) M else .error 9) by
      rw [← HSOME.out]
      rfl)
    by_cases hdp : deep < 12
    · rw [if_pos hdp] at HVAL
      have hnd : ¬ 12 ≤ deep := by omega
      go_enter Tryz.func32, Tryz.ntmps32
      go_wp2_with fail
      refine (next_calls HR0.out).mono ?_
      rintro e w1 ⟨rfl, hR, hB⟩
      rw [HHV.out]
      have HR1 := Lib.hid hR
      have HA1 := Lib.hid (At.below' HA0.out hB)
      have HQ1 := Lib.hid ((hB.block _ (lt_of_heap HQ0.out)).trans HQ0.out)
      clear hR hB
      go_wp2_with fail
      refine (rlist_calls (HIN.out hdp) HL.out HR1.out).mono ?_
      intro e w2 h2
      obtain ⟨x, xk, xn, xt, xA, xan, xac, xB, xbn, xbc, rfl, hA, hx, hR, hxx⟩ := h2.st
      have HA2 := Lib.hid hA
      have HR2 := Lib.hid hR
      have HXX := Lib.hid hxx
      have hw1 := lt_of_heap HQ1.out
      have HX2 := Lib.hid (hx.turn (Turn.refl (fun _ => False) w2) (F' := fun b => w.heap.size < b) (fun b (hb : w1.heap.size ≤ b) _ => ⟨fun h => h, by omega⟩))
      clear hA hR hxx hx h2
      have hq2 := ((HA2.out.block _ (lt_of_heap HQ1.out) (by omega)).trans HQ1.out)
      have HFIN := Lib.hid (vl_end (x := x) (k := xk) (n := xn) (t := xt) (A := xA) (an := xan) (ac := xac) (B := xB) (bn := xbn) (bc := xbc) hrl hq2 HX2.out (At.trans HA1.out HA2.out) HR2.out)
      obtain ⟨r0, r1, r2, r3, r4, fq0, fq1, fq2, fq3, fq4⟩ := five_of hq2
      clear hq2 HR1
      go_wp2
      have hfin := HFIN.out _ rfl
      refine bodyPost_ret (results_cell_row rfl _ _ w.heap.size 27 (jcs xk xn xt xA xan xac xB xbn xbc) (0, 0) _ rfl hfin.2.2.2 Tryz.underlying27 rfl (by kernel_rfl)) rfl ?_
      rw [HVAL.out]
      cases hr : listP (inn inner) M with
      | ok q =>
        obtain ⟨y, K⟩ := q
        have hxy := HXX.out y K hr
        have hst := hfin.2.2.1
        rw [hr] at hst
        exact ⟨x, xk, xn, xt, xA, xan, xac, xB, xbn, xbc, rfl, hfin.1, hfin.2.1, hxy, hst⟩
      | error d =>
        have hst := hfin.2.2.1
        rw [hr] at hst
        exact ⟨x, xk, xn, xt, xA, xan, xac, xB, xbn, xbc, rfl, hfin.1, hfin.2.1, hst⟩
    · rw [if_neg hdp] at HVAL
      have hnd : 12 ≤ deep := by omega
      go_enter Tryz.func32, Tryz.ntmps32
      go_wp2_with fail
      refine (next_calls HR0.out).mono ?_
      rintro e w1 ⟨rfl, hR, hB⟩
      rw [HHV.out]
      have HR1 := Lib.hid hR
      have HA1 := Lib.hid (At.below' HA0.out hB)
      have HQ1 := Lib.hid ((hB.block _ (lt_of_heap HQ0.out)).trans HQ0.out)
      clear hR hB
      go_wp2_with fail
      refine (fail_calls HR1.out (d := 9) (by decide)).mono ?_
      rintro e w2 ⟨rfl, hR, hA⟩
      have HA2 := Lib.hid hA
      have HR2 := Lib.hid (show RS w2 rb b (.error 9) from hR)
      clear hA hR
      have hq2 := ((HA2.out.block _ (lt_of_heap HQ1.out) (by omega)).trans HQ1.out)
      have HFIN := Lib.hid (vl_end (x := nullJ) (k := 0) (n := 0) (t := []) (A := none) (an := 0) (ac := 0) (B := none) (bn := 0) (bc := 0) hrl hq2 (leaf_JsV _ _ 0 0 []) (At.trans HA1.out HA2.out) HR2.out)
      obtain ⟨r0, r1, r2, r3, r4, fq0, fq1, fq2, fq3, fq4⟩ := five_of hq2
      clear hq2 HR1
      go_wp2
      have hfin := HFIN.out _ rfl
      refine bodyPost_ret (results_cell_row rfl _ _ w.heap.size 27 (jcs 0 0 [] none 0 0 none 0 0) (0, 0) _ rfl hfin.2.2.2 Tryz.underlying27 rfl (by kernel_rfl)) rfl ?_
      rw [HVAL.out]
      exact ⟨nullJ, 0, 0, [], none, 0, 0, none, 0, 0, rfl, hfin.1, hfin.2.1, hfin.2.2.1⟩
  by_cases h123 : v = 123
  · obtain ⟨M, rfl⟩ := headV_hit (c := 123) (by decide) (HHV.out.trans (h123.trans (by rfl)))
    subst h123
    have HVAL := Lib.hid (show stP (valueOf inner) (.ok (123 :: M)) = (if deep < 12 then objP (inn inner) M else .error 9) by
      rw [← HSOME.out]
      rfl)
    by_cases hdp : deep < 12
    · rw [if_pos hdp] at HVAL
      have hnd : ¬ 12 ≤ deep := by omega
      go_enter Tryz.func32, Tryz.ntmps32
      go_wp2_with fail
      refine (next_calls HR0.out).mono ?_
      rintro e w1 ⟨rfl, hR, hB⟩
      rw [HHV.out]
      have HR1 := Lib.hid hR
      have HA1 := Lib.hid (At.below' HA0.out hB)
      have HQ1 := Lib.hid ((hB.block _ (lt_of_heap HQ0.out)).trans HQ0.out)
      clear hR hB
      go_wp2_with fail
      refine (robject_calls (HIN.out hdp) HL.out HR1.out).mono ?_
      intro e w2 h2
      obtain ⟨x, xk, xn, xt, xA, xan, xac, xB, xbn, xbc, rfl, hA, hx, hR, hxx⟩ := h2.st
      have HA2 := Lib.hid hA
      have HR2 := Lib.hid hR
      have HXX := Lib.hid hxx
      have hw1 := lt_of_heap HQ1.out
      have HX2 := Lib.hid (hx.turn (Turn.refl (fun _ => False) w2) (F' := fun b => w.heap.size < b) (fun b (hb : w1.heap.size ≤ b) _ => ⟨fun h => h, by omega⟩))
      clear hA hR hxx hx h2
      have hq2 := ((HA2.out.block _ (lt_of_heap HQ1.out) (by omega)).trans HQ1.out)
      have HFIN := Lib.hid (vl_end (x := x) (k := xk) (n := xn) (t := xt) (A := xA) (an := xan) (ac := xac) (B := xB) (bn := xbn) (bc := xbc) hrl hq2 HX2.out (At.trans HA1.out HA2.out) HR2.out)
      obtain ⟨r0, r1, r2, r3, r4, fq0, fq1, fq2, fq3, fq4⟩ := five_of hq2
      clear hq2 HR1
      go_wp2
      have hfin := HFIN.out _ rfl
      refine bodyPost_ret (results_cell_row rfl _ _ w.heap.size 27 (jcs xk xn xt xA xan xac xB xbn xbc) (0, 0) _ rfl hfin.2.2.2 Tryz.underlying27 rfl (by kernel_rfl)) rfl ?_
      rw [HVAL.out]
      cases hr : objP (inn inner) M with
      | ok q =>
        obtain ⟨y, K⟩ := q
        have hxy := HXX.out y K hr
        have hst := hfin.2.2.1
        rw [hr] at hst
        exact ⟨x, xk, xn, xt, xA, xan, xac, xB, xbn, xbc, rfl, hfin.1, hfin.2.1, hxy, hst⟩
      | error d =>
        have hst := hfin.2.2.1
        rw [hr] at hst
        exact ⟨x, xk, xn, xt, xA, xan, xac, xB, xbn, xbc, rfl, hfin.1, hfin.2.1, hst⟩
    · rw [if_neg hdp] at HVAL
      have hnd : 12 ≤ deep := by omega
      go_enter Tryz.func32, Tryz.ntmps32
      go_wp2_with fail
      refine (next_calls HR0.out).mono ?_
      rintro e w1 ⟨rfl, hR, hB⟩
      rw [HHV.out]
      have HR1 := Lib.hid hR
      have HA1 := Lib.hid (At.below' HA0.out hB)
      have HQ1 := Lib.hid ((hB.block _ (lt_of_heap HQ0.out)).trans HQ0.out)
      clear hR hB
      go_wp2_with fail
      refine (fail_calls HR1.out (d := 9) (by decide)).mono ?_
      rintro e w2 ⟨rfl, hR, hA⟩
      have HA2 := Lib.hid hA
      have HR2 := Lib.hid (show RS w2 rb b (.error 9) from hR)
      clear hA hR
      have hq2 := ((HA2.out.block _ (lt_of_heap HQ1.out) (by omega)).trans HQ1.out)
      have HFIN := Lib.hid (vl_end (x := nullJ) (k := 0) (n := 0) (t := []) (A := none) (an := 0) (ac := 0) (B := none) (bn := 0) (bc := 0) hrl hq2 (leaf_JsV _ _ 0 0 []) (At.trans HA1.out HA2.out) HR2.out)
      obtain ⟨r0, r1, r2, r3, r4, fq0, fq1, fq2, fq3, fq4⟩ := five_of hq2
      clear hq2 HR1
      go_wp2
      have hfin := HFIN.out _ rfl
      refine bodyPost_ret (results_cell_row rfl _ _ w.heap.size 27 (jcs 0 0 [] none 0 0 none 0 0) (0, 0) _ rfl hfin.2.2.2 Tryz.underlying27 rfl (by kernel_rfl)) rfl ?_
      rw [HVAL.out]
      exact ⟨nullJ, 0, 0, [], none, 0, 0, none, 0, 0, rfl, hfin.1, hfin.2.1, hfin.2.2.1⟩
  by_cases h110 : v = 110
  · obtain ⟨M, rfl⟩ := headV_hit (c := 110) (by decide) (HHV.out.trans (h110.trans (by rfl)))
    subst h110
    go_enter Tryz.func32, Tryz.ntmps32
    go_wp2_with fail
    refine (next_calls HR0.out).mono ?_
    rintro e w1 ⟨rfl, hR, hB⟩
    rw [HHV.out]
    have HR1 := Lib.hid hR
    have HA1 := Lib.hid (At.below' HA0.out hB)
    have HQ1 := Lib.hid ((hB.block _ (lt_of_heap HQ0.out)).trans HQ0.out)
    clear hR hB
    have HVAL := Lib.hid (show stP (valueOf inner) (.ok (110 :: M)) = match wordS [110, 117, 108, 108] (.ok (110 :: M)) with
        | .ok K => .ok (nullJ, K)
        | .error d => .error d from (word_st (c := 0)))
    go_wp2_with fail
    refine (rword_calls HR1.out _ [110, 117, 108, 108] rfl (by decide) (by decide)).mono ?_
    rintro e w2 ⟨rfl, hR, hA⟩
    obtain ⟨s2, hs2⟩ : ∃ s2, wordS [110, 117, 108, 108] (.ok (110 :: M)) = s2 := ⟨_, rfl⟩
    rw [hs2] at hR HVAL
    have HA2 := Lib.hid hA
    have HR2 := Lib.hid hR
    clear hA hR hs2
    have hq2 := ((HA2.out.block _ (lt_of_heap HQ1.out) (by omega)).trans HQ1.out)
    have HFIN := Lib.hid (vl_end (x := nullJ) (k := 0) (n := 0) (t := []) (A := none) (an := 0) (ac := 0) (B := none) (bn := 0) (bc := 0) hrl hq2 (leaf_JsV _ _ 0 0 []) (At.trans HA1.out HA2.out) HR2.out)
    obtain ⟨r0, r1, r2, r3, r4, fq0, fq1, fq2, fq3, fq4⟩ := five_of hq2
    clear hq2 HR1
    go_wp2
    have hfin := HFIN.out _ rfl
    refine bodyPost_ret (results_cell_row rfl _ _ w.heap.size 27 (jcs 0 0 [] none 0 0 none 0 0) (0, 0) _ rfl hfin.2.2.2 Tryz.underlying27 rfl (by kernel_rfl)) rfl ?_
    rw [HVAL.out]
    cases s2 with
    | ok K => exact ⟨nullJ, 0, 0, [], none, 0, 0, none, 0, 0, rfl, hfin.1, hfin.2.1, rfl, hfin.2.2.1⟩
    | error d => exact ⟨nullJ, 0, 0, [], none, 0, 0, none, 0, 0, rfl, hfin.1, hfin.2.1, hfin.2.2.1⟩
  by_cases h116 : v = 116
  · obtain ⟨M, rfl⟩ := headV_hit (c := 116) (by decide) (HHV.out.trans (h116.trans (by rfl)))
    subst h116
    go_enter Tryz.func32, Tryz.ntmps32
    go_wp2_with fail
    refine (next_calls HR0.out).mono ?_
    rintro e w1 ⟨rfl, hR, hB⟩
    rw [HHV.out]
    have HR1 := Lib.hid hR
    have HA1 := Lib.hid (At.below' HA0.out hB)
    have HQ1 := Lib.hid ((hB.block _ (lt_of_heap HQ0.out)).trans HQ0.out)
    clear hR hB
    have HVAL := Lib.hid (show stP (valueOf inner) (.ok (116 :: M)) = match wordS [116, 114, 117, 101] (.ok (116 :: M)) with
        | .ok K => .ok ((leafJ 1 1 []), K)
        | .error d => .error d from (word_st (c := 0)))
    go_wp2_with fail
    refine (rword_calls HR1.out _ [116, 114, 117, 101] rfl (by decide) (by decide)).mono ?_
    rintro e w2 ⟨rfl, hR, hA⟩
    obtain ⟨s2, hs2⟩ : ∃ s2, wordS [116, 114, 117, 101] (.ok (116 :: M)) = s2 := ⟨_, rfl⟩
    rw [hs2] at hR HVAL
    have HA2 := Lib.hid hA
    have HR2 := Lib.hid hR
    clear hA hR hs2
    have hq2 := ((HA2.out.block _ (lt_of_heap HQ1.out) (by omega)).trans HQ1.out)
    have HFIN := Lib.hid (vl_end (x := (leafJ 1 1 [])) (k := 1) (n := 1) (t := []) (A := none) (an := 0) (ac := 0) (B := none) (bn := 0) (bc := 0) hrl hq2 (leaf_JsV _ _ 1 1 []) (At.trans HA1.out HA2.out) HR2.out)
    obtain ⟨r0, r1, r2, r3, r4, fq0, fq1, fq2, fq3, fq4⟩ := five_of hq2
    clear hq2 HR1
    go_wp2
    have hfin := HFIN.out _ rfl
    refine bodyPost_ret (results_cell_row rfl _ _ w.heap.size 27 (jcs 1 1 [] none 0 0 none 0 0) (0, 0) _ rfl hfin.2.2.2 Tryz.underlying27 rfl (by kernel_rfl)) rfl ?_
    rw [HVAL.out]
    cases s2 with
    | ok K => exact ⟨(leafJ 1 1 []), 1, 1, [], none, 0, 0, none, 0, 0, rfl, hfin.1, hfin.2.1, rfl, hfin.2.2.1⟩
    | error d => exact ⟨(leafJ 1 1 []), 1, 1, [], none, 0, 0, none, 0, 0, rfl, hfin.1, hfin.2.1, hfin.2.2.1⟩
  by_cases h102 : v = 102
  · obtain ⟨M, rfl⟩ := headV_hit (c := 102) (by decide) (HHV.out.trans (h102.trans (by rfl)))
    subst h102
    go_enter Tryz.func32, Tryz.ntmps32
    go_wp2_with fail
    refine (next_calls HR0.out).mono ?_
    rintro e w1 ⟨rfl, hR, hB⟩
    rw [HHV.out]
    have HR1 := Lib.hid hR
    have HA1 := Lib.hid (At.below' HA0.out hB)
    have HQ1 := Lib.hid ((hB.block _ (lt_of_heap HQ0.out)).trans HQ0.out)
    clear hR hB
    have HVAL := Lib.hid (show stP (valueOf inner) (.ok (102 :: M)) = match wordS [102, 97, 108, 115, 101] (.ok (102 :: M)) with
        | .ok K => .ok ((leafJ 1 0 []), K)
        | .error d => .error d from (word_st (c := 0)))
    go_wp2_with fail
    refine (rword_calls HR1.out _ [102, 97, 108, 115, 101] rfl (by decide) (by decide)).mono ?_
    rintro e w2 ⟨rfl, hR, hA⟩
    obtain ⟨s2, hs2⟩ : ∃ s2, wordS [102, 97, 108, 115, 101] (.ok (102 :: M)) = s2 := ⟨_, rfl⟩
    rw [hs2] at hR HVAL
    have HA2 := Lib.hid hA
    have HR2 := Lib.hid hR
    clear hA hR hs2
    have hq2 := ((HA2.out.block _ (lt_of_heap HQ1.out) (by omega)).trans HQ1.out)
    have HFIN := Lib.hid (vl_end (x := (leafJ 1 0 [])) (k := 1) (n := 0) (t := []) (A := none) (an := 0) (ac := 0) (B := none) (bn := 0) (bc := 0) hrl hq2 (leaf_JsV _ _ 1 0 []) (At.trans HA1.out HA2.out) HR2.out)
    obtain ⟨r0, r1, r2, r3, r4, fq0, fq1, fq2, fq3, fq4⟩ := five_of hq2
    clear hq2 HR1
    go_wp2
    have hfin := HFIN.out _ rfl
    refine bodyPost_ret (results_cell_row rfl _ _ w.heap.size 27 (jcs 1 0 [] none 0 0 none 0 0) (0, 0) _ rfl hfin.2.2.2 Tryz.underlying27 rfl (by kernel_rfl)) rfl ?_
    rw [HVAL.out]
    cases s2 with
    | ok K => exact ⟨(leafJ 1 0 []), 1, 0, [], none, 0, 0, none, 0, 0, rfl, hfin.1, hfin.2.1, rfl, hfin.2.2.1⟩
    | error d => exact ⟨(leafJ 1 0 []), 1, 0, [], none, 0, 0, none, 0, 0, rfl, hfin.1, hfin.2.1, hfin.2.2.1⟩
  by_cases h34 : v = 34
  · obtain ⟨M, rfl⟩ := headV_hit (c := 34) (by decide) (HHV.out.trans (h34.trans (by rfl)))
    subst h34
    go_enter Tryz.func32, Tryz.ntmps32
    go_wp2_with fail
    refine (next_calls HR0.out).mono ?_
    rintro e w1 ⟨rfl, hR, hB⟩
    rw [HHV.out]
    have HR1 := Lib.hid hR
    have HA1 := Lib.hid (At.below' HA0.out hB)
    have HQ1 := Lib.hid ((hB.block _ (lt_of_heap HQ0.out)).trans HQ0.out)
    clear hR hB
    have HVAL := Lib.hid (show stP (valueOf inner) (.ok (34 :: M)) = textJ (34 :: M) from rfl)
    go_wp2_with fail
    refine (rtext_calls HR1.out).mono ?_
    intro e w2 h2
    obtain ⟨t, rfl, hA, hR, ht⟩ := h2.st
    have HA2 := Lib.hid hA
    have HR2 := Lib.hid hR
    have HT := Lib.hid ht
    clear hA hR ht h2
    have hq2 := ((HA2.out.block _ (lt_of_heap HQ1.out) (by omega)).trans HQ1.out)
    have HFIN := Lib.hid (vl_end (x := (leafJ 3 0 t)) (k := 3) (n := 0) (t := t) (A := none) (an := 0) (ac := 0) (B := none) (bn := 0) (bc := 0) hrl hq2 (leaf_JsV _ _ 3 0 t) (At.trans HA1.out HA2.out) HR2.out)
    obtain ⟨r0, r1, r2, r3, r4, fq0, fq1, fq2, fq3, fq4⟩ := five_of hq2
    clear hq2 HR1
    go_wp2
    have hfin := HFIN.out _ rfl
    refine bodyPost_ret (results_cell_row rfl _ _ w.heap.size 27 (jcs 3 0 t none 0 0 none 0 0) (0, 0) _ rfl hfin.2.2.2 Tryz.underlying27 rfl (by kernel_rfl)) rfl ?_
    rw [HVAL.out]
    unfold textJ
    cases hr : textP (34 :: M) with
    | ok q =>
      obtain ⟨y, K⟩ := q
      have hxy := HT.out y K hr
      have hst := hfin.2.2.1
      rw [show dtextS (.ok (34 :: M)) = textP (34 :: M) from rfl, hr] at hst
      exact ⟨leafJ 3 0 t, 3, 0, t, none, 0, 0, none, 0, 0, rfl, hfin.1, hfin.2.1, by rw [hxy], hst⟩
    | error d =>
      have hst := hfin.2.2.1
      rw [show dtextS (.ok (34 :: M)) = textP (34 :: M) from rfl, hr] at hst
      exact ⟨leafJ 3 0 t, 3, 0, t, none, 0, 0, none, 0, 0, rfl, hfin.1, hfin.2.1, hst⟩
  have b91 : (v == 91) = false := beq_eq_false_iff_ne.2 h91
  have b123 : (v == 123) = false := beq_eq_false_iff_ne.2 h123
  have b110 : (v == 110) = false := beq_eq_false_iff_ne.2 h110
  have b116 : (v == 116) = false := beq_eq_false_iff_ne.2 h116
  have b102 : (v == 102) = false := beq_eq_false_iff_ne.2 h102
  have b34 : (v == 34) = false := beq_eq_false_iff_ne.2 h34
  have HVAL := Lib.hid (numS_val (inner := inner) HHV.out h110 h116 h102 h34 h91 h123)
  clear h91 h123 h110 h116 h102 h34
  go_enter Tryz.func32, Tryz.ntmps32
  go_wp2_with fail
  refine (next_calls HR0.out).mono ?_
  rintro e w1 ⟨rfl, hR, hB⟩
  rw [HHV.out]
  have HR1 := Lib.hid hR
  have HA1 := Lib.hid (At.below' HA0.out hB)
  have HQ1 := Lib.hid ((hB.block _ (lt_of_heap HQ0.out)).trans HQ0.out)
  clear hR hB
  go_wp2_with fail
  refine (rnumber_calls HR1.out).mono ?_
  rintro e w2 ⟨n, rfl, hA, hM⟩
  have HA2 := Lib.hid hA
  have hR : RS w2 rb b (stOf (numS s)) ∧ ∀ y K, numS s = .ok (y, K) → n = y := by
    cases hr : numS s with
    | ok q =>
      rw [hr] at hM
      exact ⟨hM.2, fun y K h => (by cases h; exact hM.1)⟩
    | error d =>
      rw [hr] at hM
      exact ⟨hM.2, fun y K h => (by cases h)⟩
  have HR2 := Lib.hid hR.1
  have HN := Lib.hid hR.2
  clear hA hR hM
  have hq2 := ((HA2.out.block _ (lt_of_heap HQ1.out) (by omega)).trans HQ1.out)
  have HFIN := Lib.hid (vl_end (x := (leafJ 2 n [])) (k := 2) (n := n) (t := []) (A := none) (an := 0) (ac := 0) (B := none) (bn := 0) (bc := 0) hrl hq2 (leaf_JsV _ _ 2 n []) (At.trans HA1.out HA2.out) HR2.out)
  obtain ⟨r0, r1, r2, r3, r4, fq0, fq1, fq2, fq3, fq4⟩ := five_of hq2
  clear hq2 HR1
  go_wp2
  have hfin := HFIN.out _ rfl
  refine bodyPost_ret (results_cell_row rfl _ _ w.heap.size 27 (jcs 2 n [] none 0 0 none 0 0) (0, 0) _ rfl hfin.2.2.2 Tryz.underlying27 rfl (by kernel_rfl)) rfl ?_
  rw [HVAL.out]
  cases hr : numS s with
  | ok q =>
    obtain ⟨y, K⟩ := q
    have hxy := HN.out y K hr
    have hst := hfin.2.2.1
    rw [hr] at hst
    exact ⟨leafJ 2 n [], 2, n, [], none, 0, 0, none, 0, 0, rfl, hfin.1, hfin.2.1, by rw [hxy], hst⟩
  | error d =>
    have hst := hfin.2.2.1
    rw [hr] at hst
    exact ⟨leafJ 2 n [], 2, n, [], none, 0, 0, none, 0, 0, rfl, hfin.1, hfin.2.1, hst⟩
theorem rvalue_calls : ∀ d : Nat, d ≤ 12 → RVSpec (valueP d) (12 - (d : Int))
  | 0, _ => rvalue_of_calls (inner := none) (by omega) (by omega) (fun h => by omega) (fun L x M h => by cases h) (fun k M => by rw [if_neg (by omega)]; rfl)
  | d + 1, h => rvalue_of_calls (inner := some (valueP d)) (by omega) (by omega) (fun _ => by
      have := rvalue_calls d (by omega)
      rw [show (12 : Int) - ((d + 1 : Nat) : Int) + 1 = 12 - (d : Int) by omega]
      exact this) (value_less d) (fun k M => by rw [if_pos (by omega)]; rfl)
end Go.Proofs.YtminegmjklehnaaGreatDoor.J

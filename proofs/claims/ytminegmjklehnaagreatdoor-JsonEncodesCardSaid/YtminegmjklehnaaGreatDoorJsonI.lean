/-
  The object that is being read: its state; Contains; what the two appends leave.
-/
import Derived.Test.YtminegmjklehnaaGreatDoorJsonH
import Derived.Test.YtminegmjklehnaaGreatDoorShelf
namespace Go.Proofs.YtminegmjklehnaaGreatDoor.J
open Go.RowKit Go.Proofs.YtminegmjklehnaaGreatDoor.B
open Go.Proofs.YtminegmjklehnaaGreatDoor.M hiding Bs
open Go.Proofs.YtminegmjklehnaaGreatDoor.C (QRow Turn)
set_option linter.unusedVariables false
set_option linter.unusedSimpArgs false

/-- the blocks of what was read. -/
def KO (B0 pb jb : Nat) (gA gB : Option Nat) (b : Nat) : Prop := B0 ≤ b ∧ b ≠ pb ∧ b ≠ jb ∧ gA ≠ some b ∧ gB ≠ some b
structure OS (B0 rb pb jb : Nat) (names : List Bs) (kids : List Js) (A : Option Addr) (ac : Nat) (B : Option Addr) (bc : Nat) (w : World) : Prop where
  hrb : rb < B0
  hpb : rb < pb
  hjb : B0 ≤ jb
  hne : pb ≠ jb
  box : w.heap[pb]? = some (.cells #[.pointer (some ⟨rb, 0, none⟩)] 45 (0, 0))
  jc : w.heap[jb]? = some (.cells (jcs 5 0 [] A names.length ac B kids.length bc) 27 (0, 0))
  rowA : OwnL w 9 1 StrR (.slice A names.length ac) names
  rowB : OwnL w 27 5 (JsR w (KO B0 pb jb (own A names.length ac) (own B kids.length bc))) (.slice B kids.length bc) kids
  gA : ∀ g, own A names.length ac = some g → B0 ≤ g ∧ g ≠ pb ∧ g ≠ jb
  gB : ∀ g, own B kids.length bc = some g → B0 ≤ g ∧ g ≠ pb ∧ g ≠ jb
  gAB : ∀ g, own A names.length ac = some g → own B kids.length bc ≠ some g
  len : kids.length = names.length
def OSt (B0 rb pb jb : Nat) (a : List Bs × List Js) (w : World) : Prop := ∃ A ac B bc, OS B0 rb pb jb a.1 a.2 A ac B bc w
theorem OS.at {B0 rb pb jb : Nat} {names : List Bs} {kids : List Js} {A B : Option Addr} {ac bc : Nat} {w w' : World} (h : OS B0 rb pb jb names kids A ac B bc w) (hA : At rb w w') : OS B0 rb pb jb names kids A ac B bc w' := by
  have h1 := h.hrb
  have h2 := h.hpb
  have h3 := h.hjb
  exact ⟨h1, h2, h3, h.hne, (hA.block _ (lt_of_heap h.box) (by omega)).trans h.box, (hA.block _ (lt_of_heap h.jc) (by omega)).trans h.jc,
    h.rowA.kept (fun g hg => hA.block _ (h.rowA.block_lt hg) (by have := h.gA g hg; omega)) (fun x cs hx => hx),
    h.rowB.kept (fun g hg => hA.block _ (h.rowB.block_lt hg) (by have := h.gB g hg; omega)) (fun x cs hx => hx.turn hA (fun b hb hl => ⟨by have := hb.1; omega, hb⟩)), h.gA, h.gB, h.gAB, h.len⟩
theorem contains_S (names : List Bs) (s : Bs) : Lib.containsS (names.map fun b => ⟨b.toArray⟩) ⟨s.toArray⟩ = names.contains s := by
  rw [Bool.eq_iff_iff, Lib.containsS_iff, List.contains_iff_mem, List.mem_map]
  constructor
  · rintro ⟨a, ha, he⟩
    have e := congrArg (fun b : ByteArray => b.data.toList) he
    simp at e
    exact e ▸ ha
  · intro h
    exact ⟨s, h, rfl⟩
theorem contains_calls {w : World} {names : List Bs} {A : Option Addr} {ac : Nat} (h : OwnL w 9 1 StrR (.slice A names.length ac) names) (s : Bs) :
    Calls Tryz.prog 74 #[.slice A names.length ac, vs s] w fun e w' => e = .returned (.bool (names.contains s)) ∧ w' = w := by
  cases names with
  | nil => exact Tryz.slices_Contains_string_empty A ac ⟨s.toArray⟩ w
  | cons n0 l =>
    have hr := h.read (F := fun _ => True) (by decide) (fun _ _ => trivial)
    obtain ⟨css, h1, h2, h3⟩ := h
    rcases h2.2 with ⟨-, h0⟩ | ⟨g, off, cap, cur, hv, hg, hn, ho, hc, ht⟩
    · simp at h0
    · simp only [Value.slice.injEq] at hv
      obtain ⟨rfl, -, rfl⟩ := hv
      generalize n0 :: l = names at *
      have := Tryz.slices_Contains_string g off names.length ac (names.map fun b => ⟨b.toArray⟩) ⟨s.toArray⟩ w (by simp) hr.2.1 (fun j hj => by
        simp at hj
        obtain ⟨a, b, cs, e1, e2, -, e4, e5, e6⟩ := hr.2.2 j _ (List.getElem?_eq_getElem hj)
        have e6 : cs = [vs names[j]] := e6
        cases e1
        rw [Addr.add_lit] at e2
        subst e2 e6
        have := e5 0 _ rfl
        rw [add_zero, Nat.mul_one] at this
        rw [this]
        simp [hj])
      refine this.mono ?_
      rintro e w' ⟨rfl, rfl⟩
      refine ⟨?_, rfl⟩
      rw [List.take_of_length_le (by simp), contains_S]
theorem pair_err {p : P Js} {s M : Bs} {acc : List Bs × List Js} (h : (takeB [58] (sp M)).1 = false) : pairTail p s acc M = .error 3 := by
  unfold pairTail
  cases hm : sp M with
  | nil => rfl
  | cons c K =>
    rw [hm, take34] at h
    cases hc : c == 58 with
    | true => rw [hc] at h; cases h
    | false => dsimp only; rw [hc]; rfl
theorem pair_ok {p : P Js} {s M K : Bs} {acc : List Bs × List Js} (h : sp M = 58 :: K) : pairTail p s acc M = match p (sp K) with
    | .error e => .error e
    | .ok (x, K2) => .ok ((acc.1 ++ [s], acc.2 ++ [x]), K2) := by
  unfold pairTail
  rw [h]
  rfl
/-! ### the two appends -/
structure GA (X w' : World) (e : TypeId) (size : Nat) (vo v' : Value) (n : Nat) (xs : List Value) : Prop where
  turn : Turn (fun k => some k = vo.ownBlock) X w'
  row : QRow w' e size v' n xs
  new : ∀ g, v'.ownBlock = some g → vo.ownBlock = some g ∨ X.heap.size ≤ g
theorem qturned {S : Nat → Prop} {w w' : World} {e : TypeId} {size : Nat} {v : Value} {n : Nat} {xs : List Value} (h : QRow w e size v n xs) (hT : Turn S w w') (hS : ∀ g, v.ownBlock = some g → ¬ S g) : QRow w' e size v n xs :=
  h.kept (fun g hg => hT.block g (h.block_lt hg) (hS g hg))
theorem news_kept {w Y X : World} {v : Value} {cs : List Value} {t : TypeId} {S : Nat} (hv : ∀ g, v.ownBlock = some g → g < w.heap.size) (hS : Y.heap.size = S) (h1 : w.heap.size ≤ Y.heap.size) (h2 : Turn (fun k => some k = v.ownBlock) (Y.alloc (.cells cs.toArray t)) X) :
    ∀ j u, cs[j]? = some u → X.cell? ((⟨S, 0, none⟩ : Addr).add j) = some u := fun j u hu => by
  subst hS
  have h3 := heap_alloc_new Y (.cells cs.toArray t)
  rw [Addr.add_lit, Nat.zero_add, cell_of_row _ _ _ _ _ (0, 0) ((h2.block _ (lt_of_heap h3) (fun e => by have := hv _ e.symm; omega)).trans h3)]
  simpa using hu
theorem tdrew {S : Nat → Prop} {a b : World} (h : Turn S a b) : Turn S a b.drew := ⟨h.os, h.tape, h.output, h.size, h.block⟩
theorem asz (w : World) (o : Obj) : (w.alloc o).heap.size = w.heap.size + 1 := by simp
theorem le_alloc (w : World) (o : Obj) : w.heap.size ≤ (w.alloc o).heap.size := (Turn.alloc (fp := fun _ => False) w o).size
/-- behind both appends: what is known of the world. -/
structure Two (V Z : World) (A B : Option Addr) (n ac bc : Nat) (xs ys : List Value) (v u : Value) : Prop where
  turn : Turn (fun k => some k = own A n ac ∨ some k = own B n bc) V Z
  rowA : QRow Z 9 1 v (n + 1) xs
  rowB : QRow Z 27 5 u (n + 1) ys
  newA : ∀ g, v.ownBlock = some g → own A n ac = some g ∨ V.heap.size ≤ g
  newB : ∀ g, u.ownBlock = some g → own B n bc = some g ∨ V.heap.size ≤ g
  ne : ∀ g, v.ownBlock = some g → u.ownBlock ≠ some g
theorem two_AB {V X1 w1 X2 w2 : World} {A B : Option Addr} {n ac bc : Nat} {xs ys : List Value} {v u : Value} (hA : ∀ g, own A n ac = some g → g < V.heap.size) (hB : ∀ g, own B n bc = some g → g < V.heap.size) (hAB : ∀ g, own A n ac = some g → own B n bc ≠ some g)
    (t1 : Turn (fun _ => False) V X1) (h1 : GA X1 w1 9 1 (.slice A n ac) v (n + 1) xs) (t2 : Turn (fun _ => False) w1 X2) (h2 : GA X2 w2 27 5 (.slice B n bc) u (n + 1) ys) : Two V w2 A B n ac bc xs ys v u := by
  have s1 := t1.size
  have s2 := h1.turn.size
  have s3 := t2.size
  have s4 := h2.turn.size
  have hne : ∀ g, v.ownBlock = some g → own B n bc ≠ some g := fun g hg hb => by
    rcases h1.new g hg with h | h
    · exact hAB g h hb
    · have := hB g hb; omega
  refine ⟨?_, ?_, h2.row, fun g hg => (h1.new g hg).imp id (fun h => by omega), fun g hg => (h2.new g hg).imp id (fun h => by omega), fun g hg hu => ?_⟩
  · refine Turn.trans (Turn.trans (Turn.trans (fp := fun k => some k = own A n ac ∨ some k = own B n bc) (Turn.mono t1 (fun _ h _ => h.elim)) h1.turn (fun k hk _ => .inl hk)) t2 (fun _ h _ => h.elim)) h2.turn (fun k hk _ => .inr hk)
  · exact qturned (qturned h1.row t2 (fun _ _ h => h)) h2.turn (fun g hg h => hne g hg h.symm)
  · rcases h2.new g hu with h | h
    · exact hne g hg h
    · have := h1.row.block_lt hg; omega
theorem two_BA {V X1 w1 X2 w2 : World} {A B : Option Addr} {n ac bc : Nat} {xs ys : List Value} {v u : Value} (hA : ∀ g, own A n ac = some g → g < V.heap.size) (hB : ∀ g, own B n bc = some g → g < V.heap.size) (hAB : ∀ g, own A n ac = some g → own B n bc ≠ some g)
    (t1 : Turn (fun _ => False) V X1) (h1 : GA X1 w1 27 5 (.slice B n bc) u (n + 1) ys) (t2 : Turn (fun _ => False) w1 X2) (h2 : GA X2 w2 9 1 (.slice A n ac) v (n + 1) xs) : Two V w2 A B n ac bc xs ys v u := by
  have s1 := t1.size
  have s2 := h1.turn.size
  have s3 := t2.size
  have s4 := h2.turn.size
  have hne : ∀ g, u.ownBlock = some g → own A n ac ≠ some g := fun g hg hb => by
    rcases h1.new g hg with h | h
    · exact hAB g hb h
    · have := hA g hb; omega
  refine ⟨?_, h2.row, ?_, fun g hg => (h2.new g hg).imp id (fun h => by omega), fun g hg => (h1.new g hg).imp id (fun h => by omega), fun g hg hu => ?_⟩
  · refine Turn.trans (Turn.trans (Turn.trans (fp := fun k => some k = own A n ac ∨ some k = own B n bc) (Turn.mono t1 (fun _ h _ => h.elim)) h1.turn (fun k hk _ => .inr hk)) t2 (fun _ h _ => h.elim)) h2.turn (fun k hk _ => .inl hk)
  · exact qturned (qturned h1.row t2 (fun _ _ h => h)) h2.turn (fun g hg h => hne g hg h.symm)
  · rcases h2.new g hg with h | h
    · exact hne g hu h
    · have := h1.row.block_lt hu; omega
/-- what is known ahead of the appends. -/
structure Pair (B0 rb pb jb : Nat) (deep : Int) (names : List Bs) (kids : List Js) (A : Option Addr) (ac : Nat) (B : Option Addr) (bc : Nat) (css dss : List (List Value)) (w V : World) (r : Except Int ((List Bs × List Js) × Bs)) (s : Bs) (x : Js) (M : Bs) (xk xn : Int) (xt : Bs) (xA : Option Addr) (xan xac : Nat) (xB : Option Addr) (xbn xbc : Nat) (S : Nat) : Prop where
  hr : r = .ok ((names ++ [s], kids ++ [x]), M)
  at0 : At rb w V
  size : w.heap.size ≤ S
  os0 : OS B0 rb pb jb names kids A ac B bc w
  os : OS B0 rb pb jb names kids A ac B bc V
  hx : JsV V (fun b => S ≤ b) x (jAgg xk xn xt xA xan xac xB xbn xbc)
  hR : RB V rb M deep
  hc1 : ∀ c ∈ css, c.length = 1
  hc3 : All2 StrR names css
  hd1 : ∀ c ∈ dss, c.length = 5
  hd3 : All2 (JsR V (KO B0 pb jb (own A names.length ac) (own B kids.length bc))) kids dss
theorem OS.fin {B0 rb pb jb : Nat} {deep : Int} {names : List Bs} {kids : List Js} {A : Option Addr} {ac : Nat} {B : Option Addr} {bc : Nat} {css dss : List (List Value)} {w V : World} {r : Except Int ((List Bs × List Js) × Bs)} {s : Bs} {x : Js} {M : Bs} {xk xn : Int} {xt : Bs} {xA : Option Addr} {xan xac : Nat} {xB : Option Addr} {xbn xbc : Nat} {S : Nat}
    (h : Pair B0 rb pb jb deep names kids A ac B bc css dss w V r s x M xk xn xt xA xan xac xB xbn xbc S) {Z Z' : World} {v u : Value} {A' B' : Option Addr} {ac' bc' : Nat} (hv : v = .slice A' (names.length + 1) ac') (hu : u = .slice B' (names.length + 1) bc')
    (h2 : Two V Z A B names.length ac bc (css.flatten ++ [vs s]) (dss.flatten ++ [.int .i64 xk, .int .i64 xn, vs xt, .slice xA xan xac, .slice xB xbn xbc]) v u)
    (hZ : Turn (fun k => k = jb) Z Z') (hj : Z'.heap[jb]? = some (.cells (jcs 5 0 [] A' (names.length + 1) ac' B' (names.length + 1) bc') 27 (0, 0))) :
    OneEnds B0 rb deep w (OSt B0 rb pb jb) r (.returned (.tuple #[])) Z' := by
  subst hv hu
  have hl := h.os.len
  have hrb := h.os.hrb
  have hpb := h.os.hpb
  have hjb := h.os.hjb
  have hpl := lt_of_heap h.os.box
  have hjl := lt_of_heap h.os.jc
  have hj0 := lt_of_heap h.os0.jc
  have hp0 := lt_of_heap h.os0.box
  have hws := h.size
  have hVw := h.at0.size
  have gA : ∀ g, own A names.length ac = some g → B0 ≤ g ∧ g ≠ pb ∧ g ≠ jb ∧ g < w.heap.size := fun g hg => ⟨(h.os.gA g hg).1, (h.os.gA g hg).2.1, (h.os.gA g hg).2.2, h.os0.rowA.block_lt hg⟩
  have gB : ∀ g, own B names.length bc = some g → B0 ≤ g ∧ g ≠ pb ∧ g ≠ jb ∧ g < w.heap.size := fun g hg => by
    rw [← hl] at hg
    exact ⟨(h.os.gB g hg).1, (h.os.gB g hg).2.1, (h.os.gB g hg).2.2, h.os0.rowB.block_lt hg⟩
  have gA' : ∀ g, own A' (names.length + 1) ac' = some g → B0 ≤ g ∧ g ≠ pb ∧ g ≠ jb := fun g hg => by
    rcases h2.newA g hg with h | h
    · exact ⟨(gA g h).1, (gA g h).2.1, (gA g h).2.2.1⟩
    · omega
  have gB' : ∀ g, own B' (names.length + 1) bc' = some g → B0 ≤ g ∧ g ≠ pb ∧ g ≠ jb := fun g hg => by
    rcases h2.newB g hg with h | h
    · exact ⟨(gB g h).1, (gB g h).2.1, (gB g h).2.2.1⟩
    · omega
  have hT : Turn (fun k => k = jb ∨ some k = own A names.length ac ∨ some k = own B names.length bc) V Z' := Turn.trans (Turn.mono h2.turn (fun k hk _ => .inr hk)) hZ (fun k hk _ => .inl hk)
  have e1 : (names ++ [s]).length = names.length + 1 := by simp
  have e2 : (kids ++ [x]).length = names.length + 1 := by simp [hl]
  refine ⟨?_, ?_⟩
  · refine Turn.trans (turn_at h.at0) hT (fun k hk _ => ?_)
    rcases hk with hk | hk | hk
    · right; omega
    · right; exact (gA k hk.symm).1
    · right; exact (gB k hk.symm).1
  · rw [h.hr]
    refine ⟨rfl, ⟨A', ac', B', bc', ?_⟩, h.hR.kept (hT.block rb h.hR.lt (fun hk => by
      rcases hk with hk | hk | hk
      · omega
      · have := gA _ hk.symm; omega
      · have := gB _ hk.symm; omega))⟩
    refine ⟨hrb, hpb, hjb, h.os.hne, ?_, ?_, ?_, ?_, ?_, ?_, ?_, ?_⟩
    · rw [hT.block pb hpl (fun hk => by
        rcases hk with hk | hk | hk
        · exact h.os.hne hk
        · exact (gA _ hk.symm).2.1 rfl
        · exact (gB _ hk.symm).2.1 rfl)]
      exact h.os.box
    · show Z'.heap[jb]? = some (.cells (jcs 5 0 [] A' (names ++ [s]).length ac' B' (kids ++ [x]).length bc') 27 (0, 0))
      rw [e1, e2]; exact hj
    · show OwnL Z' 9 1 StrR (.slice A' (names ++ [s]).length ac') (names ++ [s])
      rw [e1]
      refine ⟨css ++ [[vs s]], ?_, ?_, h.hc3.snoc rfl⟩
      · intro d hd
        rcases List.mem_append.1 hd with hd | hd
        · exact h.hc1 d hd
        · rw [List.mem_singleton.1 hd]; rfl
      · rw [e1, List.flatten_append]
        exact (by simpa using qturned h2.rowA hZ (fun g hg e => (gA' g hg).2.2 e))
    · show OwnL Z' 27 5 (JsR Z' (KO B0 pb jb (own A' (names ++ [s]).length ac') (own B' (kids ++ [x]).length bc'))) (.slice B' (kids ++ [x]).length bc') (kids ++ [x])
      rw [e1, e2]
      refine ⟨dss ++ [[.int .i64 xk, .int .i64 xn, vs xt, .slice xA xan xac, .slice xB xbn xbc]], ?_, ?_, ?_⟩
      · intro d hd
        rcases List.mem_append.1 hd with hd | hd
        · exact h.hd1 d hd
        · rw [List.mem_singleton.1 hd]; rfl
      · rw [e2, List.flatten_append]
        exact (by simpa using qturned h2.rowB hZ (fun g hg e => (gB' g hg).2.2 e))
      · refine (h.hd3.mono (fun y cs hy => ?_)).snoc ?_
        · refine hy.turn hT (fun b hb hlb => ⟨fun hk => ?_, hb.1, hb.2.1, hb.2.2.1, fun hg => ?_, fun hg => ?_⟩)
          · rcases hk with hk | hk | hk
            · exact hb.2.2.1 hk
            · exact hb.2.2.2.1 hk.symm
            · rw [← hl] at hk; exact hb.2.2.2.2 hk.symm
          · rcases h2.newA b hg with hg | hg
            · exact hb.2.2.2.1 hg
            · omega
          · rcases h2.newB b hg with hg | hg
            · rw [← hl] at hg; exact hb.2.2.2.2 hg
            · omega
        · refine ⟨rfl, h.hx.turn hT (fun b hb hlb => ⟨fun hk => ?_, by omega, by omega, by omega, fun hg => ?_, fun hg => ?_⟩)⟩
          · rcases hk with hk | hk | hk
            · omega
            · have := gA _ hk.symm; omega
            · have := gB _ hk.symm; omega
          · rcases h2.newA b hg with hg | hg
            · have := gA _ hg; omega
            · omega
          · rcases h2.newB b hg with hg | hg
            · have := gB _ hg; omega
            · omega
    · show ∀ g, own A' (names ++ [s]).length ac' = some g → _
      rw [e1]; exact gA'
    · show ∀ g, own B' (kids ++ [x]).length bc' = some g → _
      rw [e2]; exact gB'
    · show ∀ g, own A' (names ++ [s]).length ac' = some g → own B' (kids ++ [x]).length bc' ≠ some g
      rw [e1, e2]; exact h2.ne
    · show (kids ++ [x]).length = (names ++ [s]).length
      rw [e1, e2]
theorem ink_NK {Z : World} {jb : Nat} {A B A' B' : Option Addr} {an ac bn bc an' ac' bn' bc' : Nat} (h : Z.heap[jb]? = some (.cells (jcs 5 0 [] A an ac B bn bc) 27 (0, 0))) :
    ((Z.setCell ⟨jb, 3, none⟩ (.slice A' an' ac')).setCell ⟨jb, 4, none⟩ (.slice B' bn' bc')).heap[jb]? = some (.cells (jcs 5 0 [] A' an' ac' B' bn' bc') 27 (0, 0)) :=
  heap_setCell_same _ jb 4 _ _ _ (heap_setCell_same Z jb 3 _ _ _ h)
theorem ink_KN {Z : World} {jb : Nat} {A B A' B' : Option Addr} {an ac bn bc an' ac' bn' bc' : Nat} (h : Z.heap[jb]? = some (.cells (jcs 5 0 [] A an ac B bn bc) 27 (0, 0))) :
    ((Z.setCell ⟨jb, 4, none⟩ (.slice B' bn' bc')).setCell ⟨jb, 3, none⟩ (.slice A' an' ac')).heap[jb]? = some (.cells (jcs 5 0 [] A' an' ac' B' bn' bc') 27 (0, 0)) :=
  heap_setCell_same _ jb 3 _ _ _ (heap_setCell_same Z jb 4 _ _ _ h)
end Go.Proofs.YtminegmjklehnaaGreatDoor.J

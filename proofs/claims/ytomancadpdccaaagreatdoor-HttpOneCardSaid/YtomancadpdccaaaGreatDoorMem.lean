/-
  What the walks lean on: texts, blocks, slices that read, slices that the call makes, worlds that turn.
-/
import Derived.Test.YtomancadpdccaaaGreatDoorBase
import Derived.Test.YtomancadpdccaaaGreatDoorCacheA
namespace Go.Proofs.YtomancadpdccaaaGreatDoor.M
set_option maxRecDepth 100000
open Go.RowKit Go.Proofs.YtomancadpdccaaaGreatDoor.B
open Go.Proofs.YtomancadpdccaaaGreatDoor.C (QRow Turn)
set_option linter.unusedVariables false
set_option linter.unusedSimpArgs false

abbrev Bs := List UInt8
abbrev vs (q : Bs) : Value := .string ⟨q.toArray⟩
theorem cells_of {w : World} {b : Nat} {cs : Array Value} {e : TypeId} (h : w.heap[b]? = some (.cells cs e (0, 0))) (o : Nat) (v : Value) (ho : cs[o]? = some v) : w.cell? ⟨b, o, none⟩ = some v := by
  rw [cell_of_row w b o cs e (0, 0) h]; exact ho
theorem frz_of {w : World} {b : Nat} {cs : Array Value} {e : TypeId} (h : w.heap[b]? = some (.cells cs e (0, 0))) (o : Nat) : w.frozen? ⟨b, o, none⟩ = false := frozen_of_row w b o cs e h
theorem alloc_old {w : World} (o : Obj) {b : Nat} (hb : b < w.heap.size) : (w.alloc o).heap[b]? = w.heap[b]? := (Turn.alloc (fp := fun _ => False) w o).block b hb (fun h => h)
theorem ext_take (l : Bs) (n : Nat) : (⟨l.toArray⟩ : ByteArray).extract 0 n = ⟨(l.take n).toArray⟩ := by
  apply ByteArray.ext
  apply Array.ext'
  simp [ByteArray.data_extract]
theorem ext_drop (l : Bs) (n m : Nat) (hm : m = l.length) : (⟨l.toArray⟩ : ByteArray).extract n m = ⟨(l.drop n).toArray⟩ := by
  subst hm
  apply ByteArray.ext
  apply Array.ext'
  simp [ByteArray.data_extract]
  rw [List.take_of_length_le (by simp)]
theorem sz (l : Bs) : (⟨l.toArray⟩ : ByteArray).size = l.length := by simp [ByteArray.size]
/-- what a call on the parser turns. -/
abbrev At (pb : Nat) (w w' : World) : Prop := Turn (fun k => k = pb) w w'
theorem at_set (w : World) (pb o : Nat) (v : Value) : At pb w (w.setCell ⟨pb, o, none⟩ v) := Turn.setCell w ⟨pb, o, none⟩ v rfl
theorem cell_congr {w w' : World} {a : Addr} (h : w'.heap[a.block]? = w.heap[a.block]?) : w'.cell? a = w.cell? a := by
  unfold World.cell?
  rw [h]
theorem At.keep {pb : Nat} {w w' : World} (h : At pb w w') {b : Nat} (hb : b < w.heap.size) (hne : b ≠ pb) : w'.heap[b]? = w.heap[b]? := h.block b hb hne
theorem At.set_new {pb : Nat} {w w' : World} (h : At pb w w') {b : Nat} (hb : w.heap.size ≤ b) (o : Nat) (v : Value) : At pb w (w'.setCell ⟨b, o, none⟩ v) :=
  Turn.trans h (Turn.setCell (fp := fun k => k = b) w' ⟨b, o, none⟩ v rfl) (fun k hk hlt => by omega)
theorem At.alloc_new {pb : Nat} {w w' : World} (h : At pb w w') (o : Obj) : At pb w (w'.alloc o) := Turn.trans h (Turn.alloc (fp := fun _ => False) w' o) (fun _ h _ => h.elim)
theorem lt_of_heap {w : World} {b : Nat} {o : Obj} (h : w.heap[b]? = some o) : b < w.heap.size := (Array.getElem?_eq_some_iff.1 h).1
theorem four_of {w : World} {b : Nat} {x0 x1 x2 x3 : Value} {e : TypeId} (h : w.heap[b]? = some (.cells #[x0, x1, x2, x3] e (0, 0))) :
    w.cell? ⟨b, 0, none⟩ = some x0 ∧ w.cell? ⟨b, 1, none⟩ = some x1 ∧ w.cell? ⟨b, 2, none⟩ = some x2 ∧ w.cell? ⟨b, 3, none⟩ = some x3 ∧
    w.frozen? ⟨b, 0, none⟩ = false ∧ w.frozen? ⟨b, 1, none⟩ = false ∧ w.frozen? ⟨b, 2, none⟩ = false ∧ w.frozen? ⟨b, 3, none⟩ = false :=
  ⟨cells_of h 0 _ rfl, cells_of h 1 _ rfl, cells_of h 2 _ rfl, cells_of h 3 _ rfl, frz_of h 0, frz_of h 1, frz_of h 2, frz_of h 3⟩
theorem three_of {w : World} {b : Nat} {x0 x1 x2 : Value} {e : TypeId} (h : w.heap[b]? = some (.cells #[x0, x1, x2] e (0, 0))) :
    w.cell? ⟨b, 0, none⟩ = some x0 ∧ w.cell? ⟨b, 1, none⟩ = some x1 ∧ w.cell? ⟨b, 2, none⟩ = some x2 := ⟨cells_of h 0 _ rfl, cells_of h 1 _ rfl, cells_of h 2 _ rfl⟩
theorem two_of {w : World} {b : Nat} {x0 x1 : Value} {e : TypeId} (h : w.heap[b]? = some (.cells #[x0, x1] e (0, 0))) :
    w.cell? ⟨b, 0, none⟩ = some x0 ∧ w.cell? ⟨b, 1, none⟩ = some x1 ∧ w.frozen? ⟨b, 0, none⟩ = false ∧ w.frozen? ⟨b, 1, none⟩ = false :=
  ⟨cells_of h 0 _ rfl, cells_of h 1 _ rfl, frz_of h 0, frz_of h 1⟩
theorem set2 {w : World} {b : Nat} {x0 x1 : Value} {e : TypeId} (h : w.heap[b]? = some (.cells #[x0, x1] e (0, 0))) (y0 y1 : Value) :
    ((w.setCell ⟨b, 0, none⟩ y0).setCell ⟨b, 1, none⟩ y1).heap[b]? = some (.cells #[y0, y1] e (0, 0)) :=
  heap_setCell_same _ b 1 _ _ _ (heap_setCell_same w b 0 _ _ _ h)
theorem set6 {w : World} {b : Nat} {x0 x1 x2 x3 x4 x5 : Value} {e : TypeId} (h : w.heap[b]? = some (.cells #[x0, x1, x2, x3, x4, x5] e (0, 0))) (y0 y1 y2 y3 y4 y5 : Value) :
    ((((((w.setCell ⟨b, 0, none⟩ y0).setCell ⟨b, 1, none⟩ y1).setCell ⟨b, 2, none⟩ y2).setCell ⟨b, 3, none⟩ y3).setCell ⟨b, 4, none⟩ y4).setCell ⟨b, 5, none⟩ y5).heap[b]? = some (.cells #[y0, y1, y2, y3, y4, y5] e (0, 0)) :=
  heap_setCell_same _ b 5 _ _ _ (heap_setCell_same _ b 4 _ _ _ (heap_setCell_same _ b 3 _ _ _ (heap_setCell_same _ b 2 _ _ _ (heap_setCell_same _ b 1 _ _ _ (heap_setCell_same w b 0 _ _ _ h)))))
theorem six_of {w : World} {b : Nat} {x0 x1 x2 x3 x4 x5 : Value} {e : TypeId} (h : w.heap[b]? = some (.cells #[x0, x1, x2, x3, x4, x5] e (0, 0))) :
    w.cell? ⟨b, 0, none⟩ = some x0 ∧ w.cell? ⟨b, 1, none⟩ = some x1 ∧ w.cell? ⟨b, 2, none⟩ = some x2 ∧ w.cell? ⟨b, 3, none⟩ = some x3 ∧ w.cell? ⟨b, 4, none⟩ = some x4 ∧ w.cell? ⟨b, 5, none⟩ = some x5 ∧
    w.frozen? ⟨b, 0, none⟩ = false ∧ w.frozen? ⟨b, 1, none⟩ = false ∧ w.frozen? ⟨b, 2, none⟩ = false ∧ w.frozen? ⟨b, 3, none⟩ = false ∧ w.frozen? ⟨b, 4, none⟩ = false ∧ w.frozen? ⟨b, 5, none⟩ = false :=
  ⟨cells_of h 0 _ rfl, cells_of h 1 _ rfl, cells_of h 2 _ rfl, cells_of h 3 _ rfl, cells_of h 4 _ rfl, cells_of h 5 _ rfl, frz_of h 0, frz_of h 1, frz_of h 2, frz_of h 3, frz_of h 4, frz_of h 5⟩
/-- append, at a step of a region that draws its order. -/
theorem step_append_q {P : Program} {w : World} {ops : Array Oper} {o : Oper} {a : Act} {Q : Exit → Act → World → Prop} {A : Prop} {K' : Act → World → Prop} (hgd : o.guard = none) (s x : Operand) (t : TypeId)
    (ho : o.op = .call { callee := .builtin .append, args := #[s, x], argTypes := #[t, t] }) (e : TypeId) (i : TypeInfo) (z : Value) (size bytes : Nat) (ht : P.underlying t = some (.slice e)) (hi : P.info? e = some i) (hz : i.zero = some z)
    (hsize : i.size = size) (hby : i.bytes = bytes) (hzs : z.cells.size = size) (hsz : 0 < size) (v : Value) (n : Nat) (xs : List Value) (hs : a.eval s = v) (hq : QRow w e size v n xs)
    (ad : Addr) (m c : Nat) (news : List Value) (hx : a.eval x = .slice (some ad) m c) (hl : news.length = m * size) (hnews : ∀ j u, news[j]? = some u → w.cell? (ad.add j) = some u) (h1 : ∀ u ∈ news, u.oneCell' = true)
    (h63 : n + m ≤ maxLen) (hbytes : (n + m) * bytes ≤ 140737488355328)
    (h : ∀ v' w', QRow w' e size v' (n + m) (xs ++ news) → w.grownBy w' v.ownBlock → (∀ g, v'.ownBlock = some g → v.ownBlock = some g ∨ w.heap.size ≤ g) → K' (a.put o.dst v') w') :
    if Region.wanted o (yielded ops a.tmps) = true then Oper.wp P o a w K' Q else A := by
  have hw : Region.wanted o (yielded ops a.tmps) = true := by simp [Region.wanted, hgd]
  rw [if_pos hw]
  obtain ⟨v', w', hr, h2, h3, h4⟩ := hq.append (P := P) t o.type e i z size bytes ht hi hz hsize hby hzs hsz ad m c news hl hnews h1 h63 hbytes
  unfold Oper.wp
  simp [execOp, ho, resolve, invoke, builtin, hs, hx, hr, Result.andThen]
  exact h v' w' h2 h3 h4
theorem QRow.form {w : World} {e : TypeId} {size : Nat} {v : Value} {n : Nat} {xs : List Value} (h : QRow w e size v n xs) : ∃ a c, v = .slice a n c := by
  rcases h.2 with ⟨rfl, h0⟩ | ⟨g, off, cap, cur, rfl, _⟩
  · exact ⟨none, 0, by rw [h0]⟩
  · exact ⟨_, _, rfl⟩

/-- a slice's elements, read by their cells. -/
def SlV {α : Type} (w : World) (F : Nat → Prop) (size : Nat) (R : α → List Value → Prop) (xs : List α) (A : Option Addr) (n : Nat) : Prop :=
  xs.length = n ∧ n ≤ 9223372036854775807 ∧ ∀ k x, xs[k]? = some x → ∃ a b cs, A = some a ∧ a.add (k * size) = b ∧ F b.block ∧ cs.length = size ∧ (∀ j u, cs[j]? = some u → w.cell? (b.add j) = some u) ∧ R x cs
theorem add_block (a : Addr) (n : Nat) : (a.add n).block = a.block := by
  unfold Addr.add
  split <;> rfl
theorem SlV.keep {α : Type} {w w' : World} {F F' : Nat → Prop} {size : Nat} {R R' : α → List Value → Prop} (hs : 0 < size) (hF : ∀ b, F b → b < w.heap.size → F' b) (hk : ∀ a v, F a.block → w.cell? a = some v → w'.cell? a = some v)
    (hR : ∀ x cs, R x cs → R' x cs) {xs : List α} {A : Option Addr} {n : Nat} (h : SlV w F size R xs A n) : SlV w' F' size R' xs A n := by
  refine ⟨h.1, h.2.1, fun k x hx => ?_⟩
  obtain ⟨a, b, cs, h1, h2, h3, h4, h5, h6⟩ := h.2.2 k x hx
  have h0 : b.block < w.heap.size := by
    obtain ⟨u, hu⟩ : ∃ u, cs[0]? = some u := ⟨cs[0]'(by omega), List.getElem?_eq_getElem (by omega)⟩
    have := World.block_lt_of_cell? w _ (h5 0 u hu)
    rwa [add_block] at this
  exact ⟨a, b, cs, h1, h2, hF _ h3 h0, h4, fun j u hu => hk _ _ (by rw [add_block]; exact h3) (h5 j u hu), hR _ _ h6⟩
def All2 {α : Type} (R : α → List Value → Prop) : List α → List (List Value) → Prop
  | [], [] => True
  | x :: xs, c :: cs => R x c ∧ All2 R xs cs
  | _, _ => False
theorem All2.length {α : Type} {R : α → List Value → Prop} : ∀ {xs : List α} {cs : List (List Value)}, All2 R xs cs → xs.length = cs.length
  | [], [], _ => rfl
  | x :: xs, c :: cs, h => congrArg (· + 1) (All2.length h.2)
theorem All2.snoc {α : Type} {R : α → List Value → Prop} : ∀ {xs : List α} {cs : List (List Value)}, All2 R xs cs → ∀ {x : α} {c : List Value}, R x c → All2 R (xs ++ [x]) (cs ++ [c])
  | [], [], _, _, _, h => ⟨h, trivial⟩
  | x :: xs, c :: cs, h, _, _, h' => ⟨h.1, All2.snoc h.2 h'⟩
theorem All2.mono {α : Type} {R R' : α → List Value → Prop} (hR : ∀ x c, R x c → R' x c) : ∀ {xs : List α} {cs : List (List Value)}, All2 R xs cs → All2 R' xs cs
  | [], [], _ => trivial
  | x :: xs, c :: cs, h => ⟨hR _ _ h.1, All2.mono hR h.2⟩
theorem All2.get {α : Type} {R : α → List Value → Prop} : ∀ {xs : List α} {cs : List (List Value)}, All2 R xs cs → ∀ {k : Nat} {x : α}, xs[k]? = some x → ∃ c, cs[k]? = some c ∧ R x c
  | [], [], _, _, _, h => by simp at h
  | x :: xs, c :: cs, h, 0, y, hy => by simp at hy; subst hy; exact ⟨c, rfl, h.1⟩
  | x :: xs, c :: cs, h, k + 1, y, hy => by
    simp at hy
    obtain ⟨c', h1, h2⟩ := All2.get h.2 hy
    exact ⟨c', by simpa using h1, h2⟩
theorem flat_get {size : Nat} : ∀ {cs : List (List Value)}, (∀ c ∈ cs, c.length = size) → ∀ {k : Nat} {c : List Value}, cs[k]? = some c → ∀ {j : Nat} {u : Value}, c[j]? = some u → cs.flatten[k * size + j]? = some u
  | [], _, k, c, h, _, _, _ => by simp at h
  | c0 :: cs, hs, 0, c, h, j, u, hu => by
    simp at h
    subst h
    have : j < c0.length := (List.getElem?_eq_some_iff.1 hu).1
    rw [List.flatten_cons, Nat.zero_mul, Nat.zero_add, List.getElem?_append_left this]
    exact hu
  | c0 :: cs, hs, k + 1, c, h, j, u, hu => by
    have h0 := hs c0 (by simp)
    simp at h
    rw [List.flatten_cons, List.getElem?_append_right (by rw [h0, Nat.add_mul]; omega)]
    have := flat_get (fun c hc => hs c (by simp [hc])) h hu
    rw [h0, show (k + 1) * size + j - size = k * size + j by rw [Nat.add_mul]; omega]
    exact this
theorem flat_len {size : Nat} : ∀ {cs : List (List Value)}, (∀ c ∈ cs, c.length = size) → cs.flatten.length = cs.length * size
  | [], _ => by simp
  | c :: cs, h => by
    have h0 := h c (by simp)
    rw [List.flatten_cons, List.length_append, flat_len (fun c hc => h c (by simp [hc])), h0, List.length_cons, Nat.add_mul]
    omega
/-- a list that the call made itself. -/
def OwnL {α : Type} (w : World) (e : TypeId) (size : Nat) (R : α → List Value → Prop) (v : Value) (xs : List α) : Prop :=
  ∃ css : List (List Value), (∀ c ∈ css, c.length = size) ∧ QRow w e size v xs.length css.flatten ∧ All2 R xs css
theorem OwnL.nil {α : Type} (w : World) (e : TypeId) (size : Nat) (R : α → List Value → Prop) : OwnL w e size R (.slice none 0 0) [] := ⟨[], by simp, QRow.nil _ _ _, trivial⟩
theorem OwnL.kept {α : Type} {w w' : World} {e : TypeId} {size : Nat} {R R' : α → List Value → Prop} {v : Value} {xs : List α} (h : OwnL w e size R v xs) (hb : ∀ g, v.ownBlock = some g → w'.heap[g]? = w.heap[g]?) (hR : ∀ x c, R x c → R' x c) : OwnL w' e size R' v xs := by
  obtain ⟨css, h1, h2, h3⟩ := h
  exact ⟨css, h1, h2.kept hb, h3.mono hR⟩
theorem OwnL.snoc {α : Type} {w w' : World} {e : TypeId} {size : Nat} {R R' : α → List Value → Prop} {v v' : Value} {xs : List α} {css : List (List Value)} (h1 : ∀ c ∈ css, c.length = size) (h3 : All2 R xs css) {x : α} {c : List Value}
    (hc : c.length = size) (hR : ∀ x c, R x c → R' x c) (hx : R' x c) (hq : QRow w' e size v' (xs.length + 1) (css.flatten ++ c)) : OwnL w' e size R' v' (xs ++ [x]) := by
  refine ⟨css ++ [c], fun d hd => ?_, ?_, (h3.mono hR).snoc hx⟩
  · rcases List.mem_append.1 hd with hd | hd
    · exact h1 d hd
    · simp at hd; rw [hd]; exact hc
  · rw [List.flatten_append, List.length_append]
    simpa using hq
theorem OwnL.read {α : Type} {w : World} {e : TypeId} {size : Nat} {R : α → List Value → Prop} {A : Option Addr} {n c : Nat} {xs : List α} (h : OwnL w e size R (.slice A n c) xs) {F : Nat → Prop} (hs : 0 < size) (hF : ∀ g, (Value.slice A n c).ownBlock = some g → F g) : SlV w F size R xs A n := by
  obtain ⟨css, h1, h2, h3⟩ := h
  have hl := h3.length
  rcases h2.2 with ⟨hv, h0⟩ | ⟨g, off, cap, cur, hv, hg, hn, ho, hc, ht⟩
  · simp only [Value.slice.injEq] at hv
    obtain ⟨rfl, rfl, rfl⟩ := hv
    refine ⟨h0, by omega, fun k x hx => ?_⟩
    rw [List.eq_nil_of_length_eq_zero h0] at hx
    simp at hx
  · simp only [Value.slice.injEq] at hv
    obtain ⟨rfl, rfl, rfl⟩ := hv
    refine ⟨rfl, by unfold maxLen at hc; omega, fun k x hx => ?_⟩
    obtain ⟨cs, hcs, hR⟩ := h3.get hx
    have hlen := h1 cs (List.mem_of_getElem? hcs)
    refine ⟨⟨g, off, none⟩, _, cs, rfl, rfl, by rw [add_block]; exact hF g rfl, hlen, fun j u hu => ?_, hR⟩
    have hf := flat_get h1 hcs hu
    rw [← ht, List.getElem?_take] at hf
    split at hf
    · rw [List.getElem?_drop] at hf
      have e1 : ((⟨g, off, none⟩ : Addr).add (k * size)).add j = ⟨g, off + (k * size + j), none⟩ := by
        rw [Addr.add_lit, Addr.add_lit]; simp [Nat.add_assoc]
      rw [e1, cell_of_row w g _ cur e (0, 0) hg]
      simpa using hf
    · cases hf
theorem turn_then {S : Nat → Prop} {a b c : World} (h : Turn S a b) (h' : Turn S b c) : Turn S a c := Turn.trans h h' (fun _ h _ => h)
theorem turn_cell {S F : Nat → Prop} {w w' : World} (hT : Turn S w w') (hF : ∀ b, F b → b < w.heap.size → ¬ S b) : ∀ (a : Addr) (v : Value), F a.block → w.cell? a = some v → w'.cell? a = some v := fun a v ha hv => by
  have hl := World.block_lt_of_cell? w a hv
  rw [cell_congr (hT.block _ hl (hF _ ha hl))]; exact hv
abbrev own (A : Option Addr) (n c : Nat) : Option Nat := (Value.slice A n c).ownBlock
theorem OwnL.block_lt {α : Type} {w : World} {e : TypeId} {size : Nat} {R : α → List Value → Prop} {v : Value} {xs : List α} (h : OwnL w e size R v xs) {g : Nat} (hg : v.ownBlock = some g) : g < w.heap.size := by
  obtain ⟨css, _, h2, _⟩ := h
  exact h2.block_lt hg
theorem add_zero (a : Addr) : a.add 0 = a := by
  unfold Addr.add
  split <;> simp_all
def allTo {n : Nat} (f : Fin n → Bool) : Nat → Bool
  | 0 => true
  | k + 1 => allTo f k && (if h : k < n then f ⟨k, h⟩ else true)
theorem allTo_step {n : Nat} (f : Fin n → Bool) {k : Nat} (h : k < n) : allTo f (k + 1) = (allTo f k && f ⟨k, h⟩) := by rw [allTo, dif_pos h]
theorem allTo_false {n : Nat} (f : Fin n → Bool) : ∀ {k : Nat} (j : Nat) (h : k < n), k < j → f ⟨k, h⟩ = false → allTo f j = false
  | k, 0, h, hj, hf => by omega
  | k, j + 1, h, hj, hf => by
    by_cases e : k = j
    · subst e; rw [allTo_step f h, hf, Bool.and_false]
    · rw [allTo, allTo_false f j h (by omega) hf, Bool.false_and]
theorem allTo_iff {n : Nat} (f : Fin n → Bool) : allTo f n = true ↔ ∀ i, f i = true := by
  constructor
  · intro h i
    cases hf : f i
    · rw [allTo_false f n i.2 i.2 hf] at h; cases h
    · rfl
  · intro h
    have : ∀ k, allTo f k = true := by
      intro k
      induction k with
      | zero => rfl
      | succ k ih => rw [allTo, ih]; split <;> simp [h]
    exact this n
def BRet (w : World) (b : Bool) (e : Ending) (w' : World) : Prop := e = .returned (.bool b) ∧ Below w.heap.size w w'
theorem two_boxes {w : World} {c1 c2 : Array Value} {t : TypeId} {W : World} (hb : Below ((w.alloc (.cells c1 t)).alloc (.cells c2 t)).heap.size ((w.alloc (.cells c1 t)).alloc (.cells c2 t)) W) :
    W.heap[w.heap.size]? = some (.cells c1 t (0, 0)) ∧ W.heap[w.heap.size + 1]? = some (.cells c2 t (0, 0)) ∧ Below w.heap.size w W := by
  have h1 := heap_alloc_new w (.cells c1 t)
  have h2 := heap_alloc_new (w.alloc (.cells c1 t)) (.cells c2 t)
  have hs : (w.alloc (.cells c1 t)).heap.size = w.heap.size + 1 := by simp
  have hs2 : ((w.alloc (.cells c1 t)).alloc (.cells c2 t)).heap.size = w.heap.size + 1 + 1 := by simp
  rw [hs] at h2
  exact ⟨(hb.block _ (by omega)).trans ((alloc_old _ (by omega)).trans h1), (hb.block _ (by omega)).trans h2, keepB (((Below.refl _ w).alloc (Nat.le_refl _) _).alloc (by omega) _) hb⟩
theorem getD_some {α : Type} {xs : List α} {j : Nat} (d : α) (h : j < xs.length) : xs[j]? = some (xs.getD j d) := by
  rw [List.getD_eq_getElem?_getD, List.getElem?_eq_getElem h]; rfl
theorem SlV.drew {α : Type} {w : World} {F : Nat → Prop} {size : Nat} {R : α → List Value → Prop} {xs : List α} {A : Option Addr} {n : Nat} (hs : 0 < size) (h : SlV w F size R xs A n) : SlV w.drew F size R xs A n :=
  SlV.keep (w := w) (w' := w.drew) hs (fun _ h _ => h) (fun _ _ _ h => h) (fun _ _ h => h) h
theorem turn_below {w w' : World} (hb : Below w.heap.size w w') : Turn (fun _ => False) w w' := Turn.of_below hb
theorem SlV.below {α : Type} {w w' : World} {F : Nat → Prop} {size : Nat} {R R' : α → List Value → Prop} {xs : List α} {A : Option Addr} {n : Nat} (hs : 0 < size) (h : SlV w F size R xs A n) (hb : Below w.heap.size w w') (hR : ∀ x cs, R x cs → R' x cs) : SlV w' F size R' xs A n :=
  SlV.keep hs (fun _ h _ => h) (fun a v _ hv => keepC hb hv) hR h
theorem at_below {rb : Nat} {w w' : World} (hb : Below w.heap.size w w') : At rb w w' := Turn.of_below hb
def ShowRet (w : World) (s : Bs) (e : Ending) (w' : World) : Prop := e = .returned (vs s) ∧ Below w.heap.size w w'
theorem allTo_all {α : Type} (xs : List α) (d : α) (p : α → Bool) : xs.all p = allTo (n := xs.length) (fun i => p (xs.getD i d)) xs.length := by
  have h : xs.all p = true ↔ allTo (n := xs.length) (fun i => p (xs.getD i d)) xs.length = true := by
    rw [allTo_iff, List.all_eq_true]
    constructor
    · intro h i
      exact h _ (by rw [List.getD_eq_getElem?_getD, List.getElem?_eq_getElem i.2]; exact List.getElem_mem i.2)
    · intro h x hx
      obtain ⟨i, hi, rfl⟩ := List.mem_iff_getElem.1 hx
      have := h ⟨i, hi⟩
      rw [List.getD_eq_getElem?_getD, List.getElem?_eq_getElem hi] at this
      exact this
  cases h1 : xs.all p <;> cases h2 : allTo (n := xs.length) (fun i => p (xs.getD i d)) xs.length <;> simp_all
end Go.Proofs.YtomancadpdccaaaGreatDoor.M

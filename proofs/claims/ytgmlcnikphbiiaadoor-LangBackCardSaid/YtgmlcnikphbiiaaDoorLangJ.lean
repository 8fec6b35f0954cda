/-
  Lists in memory: how they read; append inside a region that draws.
-/
import Derived.Test.YtgmlcnikphbiiaaDoorLangI
namespace Go.Proofs.YtgmlcnikphbiiaaDoor.L
open Go.RowKit Go.Proofs.YtgmlcnikphbiiaaDoor.B
open Go.Proofs.YtgmlcnikphbiiaaDoor.C (QRow Turn)
set_option linter.unusedVariables false
set_option linter.unusedSimpArgs false

/-- append, at a step of a region that draws its order. -/
theorem step_append_q {P : Program} {w : World} {ops : Array Oper} {o : Oper} {a : Act} {Q : Exit → Act → World → Prop} {A : Prop} {K' : Act → World → Prop} (hgd : o.guard = none) (s x : Operand) (t : TypeId)
    (ho : o.op = .call { callee := .builtin .append, args := #[s, x], argTypes := #[t, t] }) (e : TypeId) (i : TypeInfo) (z : Value) (size bytes : Nat) (ht : P.underlying t = some (.slice e)) (hi : P.info? e = some i) (hz : i.zero = some z)
    (hsize : i.size = size) (hby : i.bytes = bytes) (hzs : z.cells.size = size) (hsz : 0 < size) (v : Value) (n : Nat) (xs : List Value) (hs : a.eval s = v) (hq : QRow w e size v n xs)
    (ad : Addr) (m c : Nat) (news : List Value) (hx : a.eval x = .slice (some ad) m c) (hl : news.length = m * size) (hnews : ∀ j u, news[j]? = some u → w.cell? (ad.add j) = some u) (h1 : ∀ u ∈ news, u.oneCell' = true)
    (h63 : n + m ≤ maxLen) (hbytes : (n + m) * bytes ≤ 140737488355328)
    (h : ∀ v' w', QRow w' e size v' (n + m) (xs ++ news) → w.grownBy w' v.ownBlock → (∀ g, v'.ownBlock = some g → v.ownBlock = some g ∨ w.heap.size ≤ g) → K' (a.put o.dst v') w') :
    if Region.wanted o (yielded ops a.tmps) = true then Oper.wp P o a w K' Q else A := by
  have hw : Region.wanted o (yielded ops a.tmps) = true := by simp [Region.wanted, hgd]
  rw [if_pos hw]
  obtain ⟨v', w', hr, h2, h3, h4⟩ := hq.append (P := P) t o.type e i z size bytes ht hi hz hsize hby hzs hsz ad m c news hl hnews h1 h63 hbytes
  unfold Oper.wp
  simp [execOp, ho, resolve, invoke, builtin, hs, hx, hr, Result.andThen]
  exact h v' w' h2 h3 h4
theorem QRow.form {w : World} {e : TypeId} {size : Nat} {v : Value} {n : Nat} {xs : List Value} (h : QRow w e size v n xs) : ∃ a c, v = .slice a n c := by
  rcases h.2 with ⟨rfl, h0⟩ | ⟨g, off, cap, cur, rfl, _⟩
  · exact ⟨none, 0, by rw [h0]⟩
  · exact ⟨_, _, rfl⟩

/-- a slice's elements, read by their cells. -/
def SlV {α : Type} (w : World) (F : Nat → Prop) (size : Nat) (R : α → List Value → Prop) (xs : List α) (A : Option Addr) (n : Nat) : Prop :=
  xs.length = n ∧ n ≤ 9223372036854775807 ∧ ∀ k x, xs[k]? = some x → ∃ a b cs, A = some a ∧ a.add (k * size) = b ∧ F b.block ∧ cs.length = size ∧ (∀ j u, cs[j]? = some u → w.cell? (b.add j) = some u) ∧ R x cs
theorem add_block (a : Addr) (n : Nat) : (a.add n).block = a.block := by
  unfold Addr.add
  split <;> rfl
theorem SlV.keep {α : Type} {w w' : World} {F F' : Nat → Prop} {size : Nat} {R R' : α → List Value → Prop} (hs : 0 < size) (hF : ∀ b, F b → b < w.heap.size → F' b) (hk : ∀ a v, F a.block → w.cell? a = some v → w'.cell? a = some v)
    (hR : ∀ x cs, R x cs → R' x cs) {xs : List α} {A : Option Addr} {n : Nat} (h : SlV w F size R xs A n) : SlV w' F' size R' xs A n := by
  refine ⟨h.1, h.2.1, fun k x hx => ?_⟩
  obtain ⟨a, b, cs, h1, h2, h3, h4, h5, h6⟩ := h.2.2 k x hx
  have h0 : b.block < w.heap.size := by
    obtain ⟨u, hu⟩ : ∃ u, cs[0]? = some u := ⟨cs[0]'(by omega), List.getElem?_eq_getElem (by omega)⟩
    have := World.block_lt_of_cell? w _ (h5 0 u hu)
    rwa [add_block] at this
  exact ⟨a, b, cs, h1, h2, hF _ h3 h0, h4, fun j u hu => hk _ _ (by rw [add_block]; exact h3) (h5 j u hu), hR _ _ h6⟩
def All2 {α : Type} (R : α → List Value → Prop) : List α → List (List Value) → Prop
  | [], [] => True
  | x :: xs, c :: cs => R x c ∧ All2 R xs cs
  | _, _ => False
theorem All2.length {α : Type} {R : α → List Value → Prop} : ∀ {xs : List α} {cs : List (List Value)}, All2 R xs cs → xs.length = cs.length
  | [], [], _ => rfl
  | x :: xs, c :: cs, h => congrArg (· + 1) (All2.length h.2)
theorem All2.snoc {α : Type} {R : α → List Value → Prop} : ∀ {xs : List α} {cs : List (List Value)}, All2 R xs cs → ∀ {x : α} {c : List Value}, R x c → All2 R (xs ++ [x]) (cs ++ [c])
  | [], [], _, _, _, h => ⟨h, trivial⟩
  | x :: xs, c :: cs, h, _, _, h' => ⟨h.1, All2.snoc h.2 h'⟩
theorem All2.mono {α : Type} {R R' : α → List Value → Prop} (hR : ∀ x c, R x c → R' x c) : ∀ {xs : List α} {cs : List (List Value)}, All2 R xs cs → All2 R' xs cs
  | [], [], _ => trivial
  | x :: xs, c :: cs, h => ⟨hR _ _ h.1, All2.mono hR h.2⟩
theorem All2.get {α : Type} {R : α → List Value → Prop} : ∀ {xs : List α} {cs : List (List Value)}, All2 R xs cs → ∀ {k : Nat} {x : α}, xs[k]? = some x → ∃ c, cs[k]? = some c ∧ R x c
  | [], [], _, _, _, h => by simp at h
  | x :: xs, c :: cs, h, 0, y, hy => by simp at hy; subst hy; exact ⟨c, rfl, h.1⟩
  | x :: xs, c :: cs, h, k + 1, y, hy => by
    simp at hy
    obtain ⟨c', h1, h2⟩ := All2.get h.2 hy
    exact ⟨c', by simpa using h1, h2⟩
theorem flat_get {size : Nat} : ∀ {cs : List (List Value)}, (∀ c ∈ cs, c.length = size) → ∀ {k : Nat} {c : List Value}, cs[k]? = some c → ∀ {j : Nat} {u : Value}, c[j]? = some u → cs.flatten[k * size + j]? = some u
  | [], _, k, c, h, _, _, _ => by simp at h
  | c0 :: cs, hs, 0, c, h, j, u, hu => by
    simp at h
    subst h
    have : j < c0.length := (List.getElem?_eq_some_iff.1 hu).1
    rw [List.flatten_cons, Nat.zero_mul, Nat.zero_add, List.getElem?_append_left this]
    exact hu
  | c0 :: cs, hs, k + 1, c, h, j, u, hu => by
    have h0 := hs c0 (by simp)
    simp at h
    rw [List.flatten_cons, List.getElem?_append_right (by rw [h0, Nat.add_mul]; omega)]
    have := flat_get (fun c hc => hs c (by simp [hc])) h hu
    rw [h0, show (k + 1) * size + j - size = k * size + j by rw [Nat.add_mul]; omega]
    exact this
theorem flat_len {size : Nat} : ∀ {cs : List (List Value)}, (∀ c ∈ cs, c.length = size) → cs.flatten.length = cs.length * size
  | [], _ => by simp
  | c :: cs, h => by
    have h0 := h c (by simp)
    rw [List.flatten_cons, List.length_append, flat_len (fun c hc => h c (by simp [hc])), h0, List.length_cons, Nat.add_mul]
    omega
/-- a list that the call made itself. -/
def OwnL {α : Type} (w : World) (e : TypeId) (size : Nat) (R : α → List Value → Prop) (v : Value) (xs : List α) : Prop :=
  ∃ css : List (List Value), (∀ c ∈ css, c.length = size) ∧ QRow w e size v xs.length css.flatten ∧ All2 R xs css
theorem OwnL.nil {α : Type} (w : World) (e : TypeId) (size : Nat) (R : α → List Value → Prop) : OwnL w e size R (.slice none 0 0) [] := ⟨[], by simp, QRow.nil _ _ _, trivial⟩
theorem OwnL.kept {α : Type} {w w' : World} {e : TypeId} {size : Nat} {R R' : α → List Value → Prop} {v : Value} {xs : List α} (h : OwnL w e size R v xs) (hb : ∀ g, v.ownBlock = some g → w'.heap[g]? = w.heap[g]?) (hR : ∀ x c, R x c → R' x c) : OwnL w' e size R' v xs := by
  obtain ⟨css, h1, h2, h3⟩ := h
  exact ⟨css, h1, h2.kept hb, h3.mono hR⟩
theorem OwnL.snoc {α : Type} {w w' : World} {e : TypeId} {size : Nat} {R R' : α → List Value → Prop} {v v' : Value} {xs : List α} {css : List (List Value)} (h1 : ∀ c ∈ css, c.length = size) (h3 : All2 R xs css) {x : α} {c : List Value}
    (hc : c.length = size) (hR : ∀ x c, R x c → R' x c) (hx : R' x c) (hq : QRow w' e size v' (xs.length + 1) (css.flatten ++ c)) : OwnL w' e size R' v' (xs ++ [x]) := by
  refine ⟨css ++ [c], fun d hd => ?_, ?_, (h3.mono hR).snoc hx⟩
  · rcases List.mem_append.1 hd with hd | hd
    · exact h1 d hd
    · simp at hd; rw [hd]; exact hc
  · rw [List.flatten_append, List.length_append]
    simpa using hq
theorem OwnL.read {α : Type} {w : World} {e : TypeId} {size : Nat} {R : α → List Value → Prop} {A : Option Addr} {n c : Nat} {xs : List α} (h : OwnL w e size R (.slice A n c) xs) {F : Nat → Prop} (hs : 0 < size) (hF : ∀ g, (Value.slice A n c).ownBlock = some g → F g) : SlV w F size R xs A n := by
  obtain ⟨css, h1, h2, h3⟩ := h
  have hl := h3.length
  rcases h2.2 with ⟨hv, h0⟩ | ⟨g, off, cap, cur, hv, hg, hn, ho, hc, ht⟩
  · simp only [Value.slice.injEq] at hv
    obtain ⟨rfl, rfl, rfl⟩ := hv
    refine ⟨h0, by omega, fun k x hx => ?_⟩
    rw [List.eq_nil_of_length_eq_zero h0] at hx
    simp at hx
  · simp only [Value.slice.injEq] at hv
    obtain ⟨rfl, rfl, rfl⟩ := hv
    refine ⟨rfl, by unfold maxLen at hc; omega, fun k x hx => ?_⟩
    obtain ⟨cs, hcs, hR⟩ := h3.get hx
    have hlen := h1 cs (List.mem_of_getElem? hcs)
    refine ⟨⟨g, off, none⟩, _, cs, rfl, rfl, by rw [add_block]; exact hF g rfl, hlen, fun j u hu => ?_, hR⟩
    have hf := flat_get h1 hcs hu
    rw [← ht, List.getElem?_take] at hf
    split at hf
    · rw [List.getElem?_drop] at hf
      have e1 : ((⟨g, off, none⟩ : Addr).add (k * size)).add j = ⟨g, off + (k * size + j), none⟩ := by
        rw [Addr.add_lit, Addr.add_lit]; simp [Nat.add_assoc]
      rw [e1, cell_of_row w g _ cur e (0, 0) hg]
      simpa using hf
    · cases hf
end Go.Proofs.YtgmlcnikphbiiaaDoor.L

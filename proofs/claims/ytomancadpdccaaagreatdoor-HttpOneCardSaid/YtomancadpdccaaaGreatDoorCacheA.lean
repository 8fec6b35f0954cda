/-
  Laws for the cache: slices at any offset, maps read as functions, worlds that turn but in given blocks.
-/
import Derived.Test.YtomancadpdccaaaGreatDoorBase
import Derived.Maps.OwnSet
namespace Go.Proofs.YtomancadpdccaaaGreatDoor.C
set_option maxRecDepth 100000
open Go.RowKit Go.Proofs.YtomancadpdccaaaGreatDoor.B
open Go.Maps (Keyed)
set_option linter.unusedVariables false
set_option linter.unusedSimpArgs false

/-! ### slices at any offset -/
def QRow (w : World) (e : TypeId) (size : Nat) (v : Value) (n : Nat) (xs : List Value) : Prop :=
  xs.length = n * size ∧ ((v = .slice none 0 0 ∧ n = 0) ∨ ∃ g off cap cur, v = .slice (some ⟨g, off, none⟩) n cap ∧ w.heap[g]? = some (.cells cur e (0, 0)) ∧ n ≤ cap ∧ off + cap * size ≤ cur.size ∧ cap ≤ maxLen ∧ (cur.toList.drop off).take (n * size) = xs)
theorem QRow.nil (w : World) (e : TypeId) (size : Nat) : QRow w e size (.slice none 0 0) 0 [] := ⟨by simp, .inl ⟨rfl, rfl⟩⟩
theorem QRow.of_owns {w : World} {base : Nat} {e : TypeId} {size : Nat} {v : Value} {n : Nat} {xs : List Value} (h : w.ownsRow base e size v n xs) : QRow w e size v n xs := by
  refine ⟨h.1, ?_⟩
  rcases h.2 with h | ⟨g, cap, cur, h1, _, h2, h3, h4, h5, h6⟩
  · exact .inl h
  · exact .inr ⟨g, 0, cap, cur, h1, h2, h3, by omega, h4, by simpa using h6⟩
theorem QRow.kept {w w' : World} {e : TypeId} {size : Nat} {v : Value} {n : Nat} {xs : List Value} (h : QRow w e size v n xs) (hb : ∀ g, v.ownBlock = some g → w'.heap[g]? = w.heap[g]?) : QRow w' e size v n xs := by
  refine ⟨h.1, ?_⟩
  rcases h.2 with h | ⟨g, off, cap, cur, rfl, h2, h3⟩
  · exact .inl h
  · exact .inr ⟨g, off, cap, cur, rfl, by rw [hb g rfl]; exact h2, h3⟩
theorem QRow.block_lt {w : World} {e : TypeId} {size : Nat} {v : Value} {n : Nat} {xs : List Value} (h : QRow w e size v n xs) {g : Nat} (hg : v.ownBlock = some g) : g < w.heap.size := by
  rcases h.2 with ⟨rfl, _⟩ | ⟨g', off, cap, cur, rfl, h2, h3⟩
  · cases hg
  · cases hg
    exact (Array.getElem?_eq_some_iff.1 h2).1
theorem heap_setCells {w : World} {g : Nat} {e : TypeId} : ∀ (vs : List Value) (o : Nat) (w : World) (cur : Array Value), w.heap[g]? = some (.cells cur e (0, 0)) → o + vs.length ≤ cur.size →
    ∃ cur', (w.setCells g o vs).heap[g]? = some (.cells cur' e (0, 0)) ∧ cur'.size = cur.size ∧ cur'.toList = cur.toList.take o ++ vs ++ cur.toList.drop (o + vs.length) ∧ w.grownBy (w.setCells g o vs) (some g)
  | [], o, w, cur, h, _ => ⟨cur, h, rfl, by simp, ⟨rfl, rfl, rfl, Nat.le_refl _, fun _ _ _ => rfl⟩⟩
  | u :: r, o, w, cur, h, hb => by
    have hb' : o + (r.length + 1) ≤ cur.size := by simpa using hb
    have h1 := heap_setCell_same w g o cur e u h
    obtain ⟨cur', c1, c2, c3, c4⟩ := heap_setCells (w := w) r (o + 1) (w.setCell ⟨g, o, none⟩ u) (cur.setIfInBounds o u) h1 (by simp; omega)
    refine ⟨cur', c1, by simpa using c2, ?_, ?_⟩
    · rw [c3, Array.toList_setIfInBounds]
      have hl : o < cur.toList.length := by simp; omega
      rw [List.take_add_one, List.take_set, List.getElem?_set_self hl, List.set_eq_of_length_le (by simp; omega), List.drop_set_of_lt (by omega)]
      simp [Nat.add_assoc, Nat.add_comm 1]
    · exact ⟨c4.os, c4.tape, c4.output, Nat.le_trans (by simp) c4.size, fun k hk hne => (c4.block k (by simpa using hk) hne).trans (heap_setCell_other w ⟨g, o, none⟩ k u (fun e => hne (by simp [e])))⟩
theorem heap_cell {w : World} {g : Nat} {cur : Array Value} {e : TypeId} (h : w.heap[g]? = some (.cells cur e (0, 0))) (o : Nat) (ho : o < cur.size) : (w.cell? ⟨g, o, none⟩).isSome = true ∧ w.frozen? ⟨g, o, none⟩ = false := by
  refine ⟨?_, frozen_of_row w g o cur e h⟩
  rw [cell_of_row w g o cur e (0, 0) h]
  simp [ho]
/-- append, whatever the slice. -/
theorem QRow.append {P : Program} {w : World} (t ty e : TypeId) (i : TypeInfo) (z : Value) (size bytes : Nat) (ht : P.underlying t = some (.slice e)) (hi : P.info? e = some i) (hz : i.zero = some z)
    (hsize : i.size = size) (hby : i.bytes = bytes) (hzs : z.cells.size = size) (hsz : 0 < size) {v : Value} {n : Nat} {xs : List Value} (h : QRow w e size v n xs)
    (a : Addr) (m c : Nat) (news : List Value) (hl : news.length = m * size) (hnews : ∀ j u, news[j]? = some u → w.cell? (a.add j) = some u) (h1 : ∀ u ∈ news, u.oneCell' = true)
    (h63 : n + m ≤ maxLen) (hbytes : (n + m) * bytes ≤ 140737488355328) :
    ∃ v' w', (Builtin.append_ #[t, t] ty #[v, .slice (some a) m c]).run P w = .ok v' w' ∧ QRow w' e size v' (n + m) (xs ++ news) ∧ w.grownBy w' v.ownBlock ∧ (∀ g, v'.ownBlock = some g → v.ownBlock = some g ∨ w.heap.size ≤ g) := by
  rcases h.2 with ⟨rfl, rfl⟩ | ⟨g, off, cap, cur, rfl, h2, h3, h4, h5, h6⟩
  · obtain rfl : xs = [] := List.eq_nil_of_length_eq_zero (by simpa using h.1)
    obtain ⟨v', w', r1, r2, r3, r4, r5⟩ := run_append_own_at (P := P) w w.heap.size t ty e i z size bytes ht hi hz hsize hby hzs hsz (.slice none 0 0) 0 [] (World.ownsRow_nil w _ e size) a m c news hl hnews h1 h63 hbytes (Nat.le_refl _)
    refine ⟨v', w', r1, QRow.of_owns r2, r3, fun g hg => ?_⟩
    rcases r5 with r5 | r5
    · left; rw [← r5]; exact hg
    · right; rw [r5] at hg; cases hg; exact Nat.le_refl _
  · by_cases hr : n + m ≤ cap
    · subst hsize
      have hnm : n * i.size + m * i.size ≤ cap * i.size := by rw [← Nat.add_mul]; exact Nat.mul_le_mul_right _ hr
      have hb : ∀ j, j < news.length → off + n * i.size + j < cur.size := fun j hj => by omega
      have hrun := run_append_room_cells (P := P) w t ty e i ht hi g off n cap a m c news hl hnews h1 hr (fun j hj => (heap_cell h2 _ (hb j hj)).1) (fun j hj => (heap_cell h2 _ (hb j hj)).2)
      obtain ⟨cur', c1, c2, c3, c4⟩ := heap_setCells (w := w) news (off + n * i.size) w cur h2 (by omega)
      refine ⟨_, _, hrun, ⟨by rw [List.length_append, h.1, hl, Nat.add_mul], .inr ⟨g, off, cap, cur', rfl, c1, hr, by omega, h5, ?_⟩⟩, c4, fun g' hg => .inl hg⟩
      have hlen : cur.toList.length = cur.size := by simp
      rw [c3, List.append_assoc, List.drop_append_of_le_length (by rw [List.length_take]; omega), List.drop_take, show off + n * i.size - off = n * i.size by omega, h6, ← List.append_assoc]
      rw [List.take_append_of_le_length (by rw [List.length_append, h.1, hl, Nat.add_mul]; omega), List.take_of_length_le (by rw [List.length_append, h.1, hl, Nat.add_mul]; omega)]
    · obtain ⟨v', w', r1, r2, r3⟩ := run_append_arg_grows (P := P) w t ty e i z size bytes ht hi hz hsize hby hzs hsz ⟨g, off, none⟩ n cap xs h.1 (fun j u hj => by
        rw [Addr.add_lit, cell_of_row w g _ cur e (0, 0) h2]
        rw [← h6] at hj
        rw [List.getElem?_take] at hj
        split at hj
        · rw [List.getElem?_drop] at hj
          simpa using hj
        · cases hj) a m c news hl hnews (by omega) h63 hbytes
      refine ⟨v', w', r1, QRow.of_owns r2, ⟨r3.os, r3.tape, r3.output, r3.size, fun k hk _ => r3.block k hk (by simp)⟩, fun g' hg => .inr (r2.lt g' hg).1⟩
theorem wpList_append_q {P : Program} {w : World} {ops : Array Oper} {rest : List Oper} {o : Oper} {a : Act} {Q : Exit → Act → World → Prop} (hgd : o.guard = none) (s x : Operand) (t : TypeId)
    (ho : o.op = .call { callee := .builtin .append, args := #[s, x], argTypes := #[t, t] }) (e : TypeId) (i : TypeInfo) (z : Value) (size bytes : Nat) (ht : P.underlying t = some (.slice e)) (hi : P.info? e = some i) (hz : i.zero = some z)
    (hsize : i.size = size) (hby : i.bytes = bytes) (hzs : z.cells.size = size) (hsz : 0 < size) (v : Value) (n : Nat) (xs : List Value) (hs : a.eval s = v) (hq : QRow w e size v n xs)
    (ad : Addr) (m c : Nat) (news : List Value) (hx : a.eval x = .slice (some ad) m c) (hl : news.length = m * size) (hnews : ∀ j u, news[j]? = some u → w.cell? (ad.add j) = some u) (h1 : ∀ u ∈ news, u.oneCell' = true)
    (h63 : n + m ≤ maxLen) (hbytes : (n + m) * bytes ≤ 140737488355328)
    (h : ∀ v' w', QRow w' e size v' (n + m) (xs ++ news) → w.grownBy w' v.ownBlock → (∀ g, v'.ownBlock = some g → v.ownBlock = some g ∨ w.heap.size ≤ g) → wpList P ops Q rest (a.put o.dst v') w') : wpList P ops Q (o :: rest) a w := by
  refine wpList_plain hgd fun K hK => ?_
  obtain ⟨v', w', hr, h2, h3, h4⟩ := hq.append (P := P) t o.type e i z size bytes ht hi hz hsize hby hzs hsz ad m c news hl hnews h1 h63 hbytes
  unfold Oper.wp
  simp [execOp, ho, resolve, invoke, builtin, hs, hx, hr, Result.andThen]
  exact hK _ _ (h v' w' h2 h3 h4)

/-! ### maps keyed by strings, read as functions -/
abbrev Nm := List UInt8
def ptrElem : Value → Option (DataW Unit × List MemPlace)
  | .pointer none => some (.nil, [])
  | .pointer (some ⟨b, 0, none⟩) => some (.lit (.int .i64 b), [])
  | _ => none
theorem ptrElem_inv {v : Value} {b : Nat} {ps : List MemPlace} (h : ptrElem v = some (.lit (.int .i64 b), ps)) : v = .pointer (some ⟨b, 0, none⟩) := by
  unfold ptrElem at h
  split at h
  · simp at h
  · simp at h
    obtain ⟨h, _⟩ := h
    rw [Int.ofNat.inj h]
  · cases h
/-- how a map's element of Go type X stands: its value, its datum. -/
structure Elem (P : Program) (X : Type) where
  R : Value → Option (DataW Unit × List MemPlace)
  z : Value
  zd : DataW Unit
  v : X → Value
  d : X → DataW Unit
  hz : R z = some (zd, [])
  hv : ∀ x, R (v x) = some (d x, [])
  inv : ∀ u x ps, R u = some (d x, ps) → u = v x
  invz : ∀ u ps, R u = some (zd, ps) → u = z
def Elem.get {P : Program} {X : Type} (E : Elem P X) : Option X → Value
  | some x => E.v x
  | none => E.z
def ptrE (P : Program) : Elem P Nat where
  R := ptrElem
  z := .pointer none
  zd := .nil
  v b := .pointer (some ⟨b, 0, none⟩)
  d b := .lit (.int .i64 b)
  hz := rfl
  hv _ := rfl
  inv u x ps h := ptrElem_inv h
  invz u ps h := by
    unfold ptrElem at h
    split at h
    · rfl
    · cases h
    · cases h
theorem plainElem_bool_inv {P : Program} {e : TypeId} (he : P.underlying e = some .bool) {v : Value} {x : Bool} {ps : List MemPlace} (h : plainElem (H := Unit) P e v = some (.lit (.bool x), ps)) : v = .bool x := by
  unfold plainElem at h
  rw [he] at h
  cases v <;> simp at h
  rw [h.1]
def boolE (P : Program) (e : TypeId) (he : P.underlying e = some .bool) : Elem P Bool where
  R := plainElem P e
  z := .bool false
  zd := .lit (.bool false)
  v b := .bool b
  d b := .lit (.bool b)
  hz := plainElem_bool he false
  hv x := plainElem_bool he x
  inv u x ps h := plainElem_bool_inv he h
  invz u ps h := plainElem_bool_inv he h
def OwnF {P : Program} {X : Type} (E : Elem P X) (w : World) (k : TypeId) (b n : Nat) (F : Nm → Option X) : Prop :=
  ∃ D, w.ownsMap P k E.R b n D ∧ ∀ q, (F q = none → Maps.has D (.string q) = false) ∧ ∀ x, F q = some x → Maps.has D (.string q) = true ∧ ∀ z, D.atKey (.string q) z = E.d x
section
variable {P : Program} {X : Type} {E : Elem P X} {w : World} {k b n : Nat} {F : Nm → Option X}
theorem OwnF.lt (h : OwnF E w k b n F) : b < w.heap.size := let ⟨_, h1, _⟩ := h; h1.lt
theorem OwnF.mono (h : OwnF E w k b n F) {n' : Nat} (hn : n ≤ n') : OwnF E w k b n' F := let ⟨D, h1, h2⟩ := h; ⟨D, h1.mono hn, h2⟩
theorem OwnF.made (E : Elem P X) (w : World) (k : TypeId) : OwnF E (w.alloc (.map #[] 0)) k w.heap.size 0 (fun _ => none) :=
  ⟨_, World.ownsMap_made w P k E.R, fun q => ⟨fun _ => rfl, fun x hx => by cases hx⟩⟩
theorem OwnF.kept (h : OwnF E w k b n F) {w' : World} (hb : w'.heap[b]? = w.heap[b]?) : OwnF E w' k b n F := by
  obtain ⟨D, ⟨es, clock, h1, h2⟩, h3⟩ := h
  exact ⟨D, ⟨es, clock, hb.trans h1, h2⟩, h3⟩
theorem OwnF.congr (h : OwnF E w k b n F) {G : Nm → Option X} (hG : ∀ q, G q = F q) : OwnF E w k b n G := by
  have : G = F := funext hG
  rw [this]; exact h
theorem isKey (q : Nm) : WideAt.IsKeyLit (.string q) := by simp [WideAt.IsKeyLit]
theorem OwnF.look (h : OwnF E w k b n F) {t e : TypeId} (K : Keyed P k) (ht : P.underlying t = some (.map k e)) (hz : (zeroValue e).run P w = .ok E.z w) {key : Value} {q : Nm} (hkey : keyOf P k key = some (.string q)) :
    (Instr.lookup t (.map (some b)) key false).run P w = .ok (E.get (F q)) w ∧
    (Instr.lookup t (.map (some b)) key true).run P w = .ok (.tuple #[E.get (F q), .bool (F q).isSome]) w := by
  obtain ⟨D, h1, h3⟩ := h
  obtain ⟨v, ps, r1, r2⟩ := h1.lookup K ht hz E.hz hkey
  obtain ⟨v', ps', s1, s2⟩ := h1.look_ok K ht hz E.hz hkey
  obtain ⟨ha, hb⟩ := h3 q
  cases hF : F q with
  | none =>
    have h4 := ha hF
    rw [Maps.atKey_of_not_has h4] at r2 s2
    rw [E.invz _ _ r2] at r1
    rw [E.invz _ _ s2, h4] at s1
    exact ⟨r1, s1⟩
  | some x =>
    obtain ⟨h4, h5⟩ := hb x hF
    rw [h5] at r2 s2
    rw [E.inv _ _ _ r2] at r1
    rw [E.inv _ _ _ s2, h4] at s1
    exact ⟨r1, s1⟩
def upd {X : Type} (F : Nm → Option X) (q : Nm) (y : Option X) : Nm → Option X := fun r => if r = q then y else F r
theorem upd_same {X : Type} (F : Nm → Option X) (q : Nm) (y : Option X) : upd F q y q = y := by simp [upd]
theorem upd_other {X : Type} (F : Nm → Option X) {q r : Nm} (y : Option X) (h : r ≠ q) : upd F q y r = F r := by simp [upd, h]
theorem OwnF.store (h : OwnF E w k b n F) {t e : TypeId} (K : Keyed P k) (ht : P.underlying t = some (.map k e)) (hn : n < maxLen) {key : Value} {q : Nm} (hkey : keyOf P k key = some (.string q)) (x : X) :
    ∃ w', (Instr.mapUpdate t (.map (some b)) key (E.v x)).run P w = .ok () w' ∧ OwnF E w' k b (n + 1) (upd F q (some x)) ∧ w.grownBy w' (some b) := by
  obtain ⟨D, h1, h3⟩ := h
  obtain ⟨w', r1, r2, r3⟩ := h1.update K ht hn hkey (E.hv x)
  refine ⟨w', r1, ⟨_, r2, fun r => ?_⟩, r3⟩
  by_cases hr : r = q
  · subst hr
    rw [upd_same]
    refine ⟨(by intro h; cases h), ?_⟩
    rintro y ⟨⟩
    exact ⟨Maps.has_put_same h1.isMap (isKey r) _, fun z => Maps.atKey_put_same h1.isMap (isKey r) _ z⟩
  · have hne : Lit.string r ≠ .string q := fun e => hr (by injection e)
    rw [upd_other _ _ hr, Maps.has_put_other hne]
    refine ⟨(h3 r).1, fun y hy => ⟨((h3 r).2 y hy).1, fun z => ?_⟩⟩
    rw [Maps.atKey_put_other hne]
    exact ((h3 r).2 y hy).2 z
theorem OwnF.drop (h : OwnF E w k b n F) {t e : TypeId} (K : Keyed P k) (ht : P.underlying t = some (.map k e)) {key : Value} {q : Nm} (hkey : keyOf P k key = some (.string q)) (ty : TypeId) :
    ∃ w', (Builtin.delete_ #[t, k] ty #[.map (some b), key]).run P w = .ok (.tuple #[]) w' ∧ OwnF E w' k b n (upd F q none) ∧ w.grownBy w' (some b) := by
  obtain ⟨D, h1, h3⟩ := h
  obtain ⟨w', r1, r2, r3⟩ := h1.drop K ht hkey ty
  refine ⟨w', r1, ⟨_, r2, fun r => ?_⟩, r3.grown⟩
  by_cases hr : r = q
  · subst hr
    rw [upd_same]
    exact ⟨fun _ => Maps.has_del_same, fun y hy => by cases hy⟩
  · have hne : Lit.string r ≠ .string q := fun e => hr (by injection e)
    rw [upd_other _ _ hr, Maps.has_del_other hne]
    refine ⟨(h3 r).1, fun y hy => ⟨((h3 r).2 y hy).1, fun z => ?_⟩⟩
    rw [Maps.atKey_del_other hne]
    exact ((h3 r).2 y hy).2 z
theorem OwnF.clear (h : OwnF E w k b n F) {t e : TypeId} (ht : P.underlying t = some (.map k e)) (ty : TypeId) :
    ∃ w', (Builtin.clear_ #[t] ty #[.map (some b)]).run P w = .ok (.tuple #[]) w' ∧ OwnF E w' k b n (fun _ => none) ∧ w.grownBy w' (some b) := by
  obtain ⟨D, ⟨es, clock, hb, F0, hs, rfl⟩, h3⟩ := h
  refine ⟨ChangeMaps.setBlock w b (.map #[] clock), ?_, ⟨.map [], ⟨#[], clock, ChangeMaps.heap_setBlock_same hb _, ⟨by simp, MapKept.stamped_empty clock, by simp⟩, Nat.zero_le _, rfl⟩, fun q => ⟨fun _ => rfl, fun x hx => by cases hx⟩⟩,
    ⟨rfl, rfl, rfl, by simp [ChangeMaps.setBlock], fun i _ hi => ChangeMaps.heap_setBlock_other hb _ (fun e => hi (by rw [e]))⟩⟩
  simp [Builtin.clear_, run_underlying ht, MapKept.run_getObj_map hb, MapKept.run_setObj_map _ hb, Result.andThen, ChangeMaps.setBlock]
end
section
variable {P : Program} {X : Type} (E : Elem P X) {w : World} {ops : Array Oper} {rest : List Oper} {o : Oper} {a : Act} {Q : Exit → Act → World → Prop} {k b n : Nat} {F : Nm → Option X}
theorem wpList_look (hg : o.guard = none) (m x : Operand) (t e : TypeId) (hop : o.op = Op.lookup t m x false) (K : Keyed P k) (ht : P.underlying t = some (.map k e)) (hz : (zeroValue e).run P w = .ok E.z w)
    (hm : a.eval m = .map (some b)) (h : OwnF E w k b n F) (key : Value) (q : Nm) (hx : a.eval x = key) (hkey : keyOf P k key = some (.string q)) (u : Value) (hu : E.get (F q) = u)
    (hK : wpList P ops Q rest (a.put o.dst u) w) : wpList P ops Q (o :: rest) a w := by
  refine wpList_plain hg fun K' hK' => ?_
  have hrun := (h.look K ht hz hkey).1
  rw [hu] at hrun
  unfold Oper.wp
  simp [execOp, hop, hm, hx, hrun, Result.andThen]
  exact hK' _ _ hK
theorem wpList_look_ok (hg : o.guard = none) (m x : Operand) (t e : TypeId) (hop : o.op = Op.lookup t m x true) (K : Keyed P k) (ht : P.underlying t = some (.map k e)) (hz : (zeroValue e).run P w = .ok E.z w)
    (hm : a.eval m = .map (some b)) (h : OwnF E w k b n F) (key : Value) (q : Nm) (hx : a.eval x = key) (hkey : keyOf P k key = some (.string q)) (u : Value) (c : Bool) (hu : E.get (F q) = u) (hc : (F q).isSome = c)
    (hK : wpList P ops Q rest (a.put o.dst (.tuple #[u, .bool c])) w) : wpList P ops Q (o :: rest) a w := by
  refine wpList_plain hg fun K' hK' => ?_
  have hrun := (h.look K ht hz hkey).2
  rw [hu, hc] at hrun
  unfold Oper.wp
  simp [execOp, hop, hm, hx, hrun, Result.andThen]
  exact hK' _ _ hK
theorem wpList_store (hg : o.guard = none) (m x y : Operand) (t e : TypeId) (hop : o.op = Op.mapUpdate t m x y) (K : Keyed P k) (ht : P.underlying t = some (.map k e)) (hn : n < maxLen)
    (hm : a.eval m = .map (some b)) (h : OwnF E w k b n F) (key : Value) (q : Nm) (hx : a.eval x = key) (hkey : keyOf P k key = some (.string q)) (c : X) (hy : a.eval y = E.v c)
    (hK : ∀ w', OwnF E w' k b (n + 1) (upd F q (some c)) → w.grownBy w' (some b) → wpList P ops Q rest (a.put o.dst (.tuple #[])) w') : wpList P ops Q (o :: rest) a w := by
  refine wpList_plain hg fun K' hK' => ?_
  obtain ⟨w', hrun, r1, r2⟩ := h.store K ht hn hkey c
  unfold Oper.wp
  simp [execOp, hop, hm, hx, hy, hrun, Result.andThen]
  exact hK' _ _ (hK w' r1 r2)
theorem wpList_drop (hg : o.guard = none) (m x : Operand) (t : TypeId) (hop : o.op = Op.call { callee := Callee.builtin Builtin.delete, args := #[m, x], argTypes := #[t, k] }) (e : TypeId) (K : Keyed P k) (ht : P.underlying t = some (.map k e))
    (hm : a.eval m = .map (some b)) (h : OwnF E w k b n F) (key : Value) (q : Nm) (hx : a.eval x = key) (hkey : keyOf P k key = some (.string q))
    (hK : ∀ w', OwnF E w' k b n (upd F q none) → w.grownBy w' (some b) → wpList P ops Q rest (a.put o.dst (.tuple #[])) w') : wpList P ops Q (o :: rest) a w := by
  refine wpList_plain hg fun K' hK' => ?_
  obtain ⟨w', hrun, r1, r2⟩ := h.drop K ht hkey o.type
  unfold Oper.wp
  simp [execOp, hop, resolve, invoke, builtin, hm, hx, hrun, Result.andThen]
  exact hK' _ _ (hK w' r1 r2)
theorem wpList_clear (hg : o.guard = none) (m : Operand) (t : TypeId) (hop : o.op = Op.call { callee := Callee.builtin Builtin.clear, args := #[m], argTypes := #[t] }) (e : TypeId) (ht : P.underlying t = some (.map k e))
    (hm : a.eval m = .map (some b)) (h : OwnF E w k b n F)
    (hK : ∀ w', OwnF E w' k b n (fun _ => none) → w.grownBy w' (some b) → wpList P ops Q rest (a.put o.dst (.tuple #[])) w') : wpList P ops Q (o :: rest) a w := by
  refine wpList_plain hg fun K' hK' => ?_
  obtain ⟨w', hrun, r1, r2⟩ := h.clear ht o.type
  unfold Oper.wp
  simp [execOp, hop, resolve, invoke, builtin, hm, hrun, Result.andThen]
  exact hK' _ _ (hK w' r1 r2)
/-- delete, at a step of a region that draws its order. -/
theorem step_drop {A : Prop} {K' : Act → World → Prop} (hg : o.guard = none) (m x : Operand) (t : TypeId) (hop : o.op = Op.call { callee := Callee.builtin Builtin.delete, args := #[m, x], argTypes := #[t, k] }) (e : TypeId) (K : Keyed P k) (ht : P.underlying t = some (.map k e))
    (hm : a.eval m = .map (some b)) (h : OwnF E w k b n F) (key : Value) (q : Nm) (hx : a.eval x = key) (hkey : keyOf P k key = some (.string q))
    (hK : ∀ w', OwnF E w' k b n (upd F q none) → w.grownBy w' (some b) → K' (a.put o.dst (.tuple #[])) w') : if Region.wanted o (yielded ops a.tmps) = true then Oper.wp P o a w K' Q else A := by
  have hw : Region.wanted o (yielded ops a.tmps) = true := by simp [Region.wanted, hg]
  rw [if_pos hw]
  obtain ⟨w', hrun, r1, r2⟩ := h.drop K ht hkey o.type
  unfold Oper.wp
  simp [execOp, hop, resolve, invoke, builtin, hm, hx, hrun, Result.andThen]
  exact hK w' r1 r2
end

/-! ### worlds that turn in given blocks alone -/
structure Turn (fp : Nat → Prop) (w w' : World) : Prop where
  os : w'.os = w.os
  tape : w'.tape = w.tape
  output : w'.output = w.output
  size : w.heap.size ≤ w'.heap.size
  block : ∀ k, k < w.heap.size → ¬ fp k → w'.heap[k]? = w.heap[k]?
theorem Turn.refl (fp : Nat → Prop) (w : World) : Turn fp w w := ⟨rfl, rfl, rfl, Nat.le_refl _, fun _ _ _ => rfl⟩
theorem Turn.trans {fp fp' : Nat → Prop} {a b c : World} (h : Turn fp a b) (h' : Turn fp' b c) (hf : ∀ k, fp' k → k < a.heap.size → fp k) : Turn fp a c :=
  ⟨h'.os.trans h.os, h'.tape.trans h.tape, h'.output.trans h.output, Nat.le_trans h.size h'.size, fun k hk hn => (h'.block k (Nat.lt_of_lt_of_le hk h.size) (fun hf' => hn (hf k hf' hk))).trans (h.block k hk hn)⟩
theorem Turn.grown {fp : Nat → Prop} {a b : World} {row : Option Nat} (h : a.grownBy b row) (hf : ∀ k, row = some k → fp k) : Turn fp a b :=
  ⟨h.os, h.tape, h.output, h.size, fun k hk hn => h.block k hk (fun e => hn (hf k e.symm))⟩
theorem Turn.below {fp : Nat → Prop} {a b : World} {B : Nat} (h : Turn fp a b) (hB : B ≤ a.heap.size) (hf : ∀ k, k < B → ¬ fp k) : Below B a b :=
  ⟨h.os, h.tape, h.output, h.size, fun k hk => h.block k (Nat.lt_of_lt_of_le hk hB) (hf k hk)⟩
theorem Turn.of_below {fp : Nat → Prop} {a b : World} (h : Below a.heap.size a b) : Turn fp a b := ⟨h.os, h.tape, h.output, h.size, fun k hk _ => h.block k hk⟩
theorem Turn.alloc {fp : Nat → Prop} (w : World) (o : Obj) : Turn fp w (w.alloc o) := Turn.of_below ((Below.refl _ w).alloc (Nat.le_refl _) o)
theorem Turn.setCell {fp : Nat → Prop} (w : World) (a : Addr) (v : Value) (hf : fp a.block) : Turn fp w (w.setCell a v) :=
  ⟨rfl, rfl, rfl, by simp, fun k _ hn => heap_setCell_other w a k v (fun e => hn (e ▸ hf))⟩
theorem Turn.mono {fp fp' : Nat → Prop} {a b : World} (h : Turn fp a b) (hf : ∀ k, fp k → k < a.heap.size → fp' k) : Turn fp' a b :=
  ⟨h.os, h.tape, h.output, h.size, fun k hk hn => h.block k hk (fun hp => hn (hf k hp hk))⟩
theorem Turn.drew {fp : Nat → Prop} {a b : World} (h : Turn fp a b) (n : Nat) : Turn fp a (b.drewN n) := ⟨h.os, h.tape, h.output, h.size, h.block⟩
end Go.Proofs.YtomancadpdccaaaGreatDoor.C

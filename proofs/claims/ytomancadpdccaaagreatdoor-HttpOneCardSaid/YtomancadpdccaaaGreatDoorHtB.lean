/-
  HTTP: lists of texts; the library's contracts.
-/
import Derived.Test.YtomancadpdccaaaGreatDoorHtA
import Derived.Test.YtomancadpdccaaaGreatDoorHtQ
import Derived.Test.YtomancadpdccaaaGreatDoorHtC
import Derived.Shelf.Strings.SlTrimAscii
import Derived.Shelf.Vars
namespace Go.Proofs.YtomancadpdccaaaGreatDoor.Ht
open Go.RowKit Go.Proofs.YtomancadpdccaaaGreatDoor.B
open Go.Proofs.YtomancadpdccaaaGreatDoor.M hiding Bs
open Go.Proofs.YtomancadpdccaaaGreatDoor.C (QRow Turn)
set_option linter.unusedVariables false
set_option linter.unusedSimpArgs false

abbrev ba (q : Bs) : ByteArray := ⟨q.toArray⟩
/-- the library's own number. -/
def Mx (w : World) : Prop := ∃ m, w.cell? ⟨0, 0, none⟩ = some (.int .i64 m)
theorem Mx.below {w w' : World} (h : Mx w) (hb : Below w.heap.size w w') : Mx w' := let ⟨m, hm⟩ := h; ⟨m, keepC hb hm⟩
/-- texts that lie one behind the other. -/
def RdS (w : World) (A : Option Addr) (l : List Bs) : Prop := ∀ i x, l[i]? = some x → ∃ ad, A = some ad ∧ w.cell? (ad.add i) = some (vs x)
theorem RdS.below {w w' : World} {A : Option Addr} {l : List Bs} (h : RdS w A l) (hb : Below w.heap.size w w') : RdS w' A l := fun i x hx => by
  obtain ⟨ad, h1, h2⟩ := h i x hx
  exact ⟨ad, h1, keepC hb h2⟩
theorem RdS.nil (w : World) (A : Option Addr) : RdS w A [] := fun i x hx => by simp at hx
theorem RdS.at_ {w : World} {A : Option Addr} {l : List Bs} (h : RdS w A l) (hl : 0 < l.length) : ∃ ad, A = some ad := by
  obtain ⟨ad, h1, _⟩ := h 0 l[0] (List.getElem?_eq_getElem hl)
  exact ⟨ad, h1⟩
theorem RdS.get {w : World} {ad : Addr} {l : List Bs} (h : RdS w (some ad) l) {i : Nat} (hi : i < l.length) : w.cell? (ad.add i) = some (vs (l.getD i [])) := by
  obtain ⟨ad', h1, h2⟩ := h i (l.getD i []) (by rw [List.getD_eq_getElem?_getD, List.getElem?_eq_getElem hi]; rfl)
  cases h1
  exact h2
theorem RdS.row {w : World} {g : Nat} {t : TypeId} {l : List Bs} (h : w.heap[g]? = some (.cells (l.map vs).toArray t (0, 0))) : RdS w (some ⟨g, 0, none⟩) l := fun i x hx => by
  refine ⟨_, rfl, ?_⟩
  rw [Addr.add_lit, cell_of_row w g _ _ _ (0, 0) h]
  simp [hx]
/-- texts that the call laid down itself. -/
def SOwn (w : World) (base : Nat) (v : Value) (l : List Bs) : Prop := w.ownsRow base 9 1 v l.length (l.map vs)
theorem SOwn.nil (w : World) (base : Nat) : SOwn w base (.slice none 0 0) [] := ⟨by simp, .inl ⟨rfl, rfl⟩⟩
theorem SOwn.row' {w : World} {base : Nat} {v : Value} {l : List Bs} {n : Nat} (h : SOwn w base v l) (hn : l.length = n) : w.ownsRow base 9 1 v n (l.map vs) := by subst hn; exact h
theorem s_base {w : World} {base : Nat} {v : Value} {l : List Bs} (h : SOwn w base v l) (k : Nat) (hk : v.ownBlock = some k) : base ≤ k := by
  rcases h.2 with ⟨rfl, _⟩ | ⟨g, cap, cur, rfl, hb, _⟩
  · cases hk
  · cases hk; exact hb
theorem SOwn.snoc {w : World} {base : Nat} {v : Value} {l : List Bs} {x : Bs} {n : Nat} (h : w.ownsRow base 9 1 v (n + 1) (l.map vs ++ [vs x])) (hn : l.length = n) : SOwn w base v (l ++ [x]) := by
  unfold SOwn
  rw [List.length_append, hn, List.map_append]
  exact h
theorem SOwn.rd {w : World} {base : Nat} {v : Value} {l : List Bs} (h : SOwn w base v l) : ∃ A c, v = .slice A l.length c ∧ l.length ≤ c ∧ RdS w A l := by
  rcases h.2 with ⟨rfl, h0⟩ | ⟨g, cap, cur, rfl, hb, hg, hn, hc, hs, ht⟩
  · rw [h0]
    rw [List.eq_nil_of_length_eq_zero h0]
    exact ⟨none, 0, rfl, Nat.le_refl _, RdS.nil _ _⟩
  · refine ⟨_, cap, rfl, hn, fun i x hx => ⟨_, rfl, ?_⟩⟩
    rw [Addr.add_lit, cell_of_row w g _ _ _ (0, 0) hg]
    have hi := (List.getElem?_eq_some_iff.1 hx).1
    have e := congrArg (fun l : List Value => l[i]?) ht
    simp only [List.getElem?_take, List.getElem?_map, hx] at e
    rw [if_pos (by omega)] at e
    rw [Nat.zero_add, ← Array.getElem?_toList, e]
    rfl
theorem SOwn.base {w : World} {base b : Nat} {v : Value} {l : List Bs} (h : SOwn w base v l) (hb : b ≤ base) : SOwn w b v l := by
  refine ⟨h.1, ?_⟩
  rcases h.2 with h | ⟨g, cap, cur, h1, h2, h3⟩
  · exact .inl h
  · exact .inr ⟨g, cap, cur, h1, by omega, h3⟩
theorem s_grown {w W W' : World} {base : Nat} {v : Value} {l : List Bs} {o : Obj} (hb : Below base w W) (hs : base ≤ W.heap.size) (h : SOwn W base v l) (hg : (W.alloc o).grownBy W' v.ownBlock) : Below base w W' :=
  (hb.alloc hs o).grown hg (by simp; omega) (fun b hb => s_base h b hb)
theorem info_parts {o : Option TypeInfo} {a : Option Value} {b c : Nat} (h : o.map (fun i => (i.zero, i.size, i.bytes)) = some (a, b, c)) : ∃ i, o = some i ∧ i.zero = a ∧ i.size = b ∧ i.bytes = c := by
  cases o with
  | none => cases h
  | some i => simp at h; exact ⟨i, rfl, h.1, h.2.1, h.2.2⟩
theorem info_s : (Tryz.prog.info? 9).map (fun i => (i.zero, i.size, i.bytes)) = some (some (.string ByteArray.empty), 1, 16) := by kernel_rfl
/-- append of one text, just laid down. -/
theorem wpList_pushS {W : World} {ops : Array Oper} {rest : List Oper} {o : Oper} {a : Act} {Q : Exit → Act → World → Prop} (hgd : o.guard = none) (s x : Operand)
    (ho : o.op = .call { callee := .builtin .append, args := #[s, x], argTypes := #[44, 44] }) (base : Nat) (v : Value) (l : List Bs) (q : Bs) (n : Nat) (hs : a.eval s = v) (hown : SOwn W base v l) (hn : l.length = n)
    (hx : a.eval x = .slice (some ⟨W.heap.size, 0, none⟩) 1 1) (hmax : n + 1 ≤ 8796093022208) (hbase : base ≤ W.heap.size)
    (h : ∀ v' w', SOwn w' base v' (l ++ [q]) → (∀ w0, Below base w0 W → Below base w0 w') → wpList Tryz.prog ops Q rest (a.put o.dst v') w') : wpList Tryz.prog ops Q (o :: rest) a (W.alloc (.cells #[vs q] 9)) := by
  obtain ⟨i0, hi, hz0, hz1, hz2⟩ := info_parts info_s
  have hc2 : ∀ j u, [vs q][j]? = some u → (W.alloc (.cells #[vs q] 9)).cell? ((⟨W.heap.size, 0, none⟩ : Addr).add j) = some u := fun j u hj => by
    rw [Addr.add_mid, cell_of_row _ _ _ #[vs q] _ (0, 0) (heap_alloc_new W _), Nat.zero_add, ← Array.getElem?_toList]
    exact hj
  refine wpList_append_own _ hgd s x 44 ho base 9 i0 (.string ByteArray.empty) 1 16 Tryz.underlying44 hi hz0 hz1 hz2 rfl (by decide) v n (l.map vs) hs ((SOwn.row' hown hn).alloc _) ⟨W.heap.size, 0, none⟩ 1 1 [vs q] hx rfl hc2 (fun u hu => ?_) (by unfold maxLen; omega) (by omega) (by simp; omega) (fun v' w' h1 h2 h3 => ?_)
  · rw [List.mem_singleton.1 hu]; rfl
  · exact h v' w' (SOwn.snoc h1 hn) (fun w0 hb => s_grown hb hbase hown h2)
/-! ### the library -/
theorem drewN_below (w : World) (n : Nat) : Below w.heap.size w (w.drewN n) := below_drewN (Below.refl _ _) n
theorem Cut_c (s t : Bs) (w : World) (hs : s.length < 4294967281) (hm : Mx w) : Calls Tryz.prog 22 #[vs s, vs t] w fun e w' => e = .returned (.tuple #[vs (Lib.cut s t).1, vs (Lib.cut s t).2.1, .bool (Lib.cut s t).2.2]) ∧ Below w.heap.size w w' := by
  obtain ⟨m, hm⟩ := hm
  refine (Tryz.strings_Cut (ba s) (ba t) m w (by rw [sz]; exact hs) hm).mono ?_
  rintro e w' ⟨rfl, n, rfl⟩
  exact ⟨rfl, drewN_below w n⟩
theorem splitB_is (s t : Bs) : (Lib.splitB (ba t) 0 (Lib.countB (ba s) (ba t)) (ba s)).map Value.string = (Lib.split s t).map vs := by
  have h := Lib.splitB_data (ba t) 0 (Lib.countB (ba s) (ba t)) (ba s)
  have h2 : (Lib.splitB (ba t) 0 (Lib.countB (ba s) (ba t)) (ba s)).map (·.data.toList) = Lib.split s t := h
  rw [← h2, List.map_map]
  rfl
theorem Split_c (s t : Bs) (w : World) (hs : s.length < 4294967281) (ht : t ≠ []) (hm : Mx w) : Calls Tryz.prog 43 #[vs s, vs t] w fun e w' => ∃ g n, e = .returned (.slice (some ⟨g, 0, none⟩) n n) ∧ (Lib.split s t).length = n ∧ RdS w' (some ⟨g, 0, none⟩) (Lib.split s t) ∧ Below w.heap.size w w' := by
  obtain ⟨m, hm⟩ := hm
  have h1 : 1 ≤ (ba t).size := by rw [sz]; exact List.length_pos_iff.2 ht
  refine (Tryz.strings_Split (ba s) (ba t) m w (by rw [sz]; exact hs) hm h1).mono ?_
  rintro e w' ⟨rfl, rfl⟩
  have hl := Lib.splitB_all (ba t) h1 0 _ (ba s) rfl
  have hb := splitB_is s t
  have hl2 : (Lib.split s t).length = Lib.countB (ba s) (ba t) + 1 := by
    have := congrArg List.length hb
    rw [List.length_map, List.length_map, hl] at this
    exact this.symm
  refine ⟨_, _, rfl, hl2, ?_, (Below.refl _ w).alloc (Nat.le_refl _) _⟩
  rw [hb]
  exact RdS.row (heap_alloc_new w _)
theorem CutPrefix_c (s p : Bs) (w : World) : Calls Tryz.prog 66 #[vs s, vs p] w fun e w' => e = .returned (.tuple #[vs (Lib.trimPrefix s p), .bool (Lib.hasPrefix s p)]) ∧ w' = w := Tryz.strings_CutPrefix (ba s) (ba p) w
theorem HasPrefix_c (s p : Bs) (w : World) : Calls Tryz.prog 60 #[vs s, vs p] w fun e w' => e = .returned (.bool (Lib.hasPrefix s p)) ∧ w' = w := Tryz.strings_HasPrefix (ba s) (ba p) w
theorem ToLower_c (s : Bs) (w : World) (hs : s.length ≤ 140737488355328) (ha : ∀ c ∈ s, c.toNat < 128) : Calls Tryz.prog 64 #[vs s] w fun e w' => e = .returned (vs (low s)) ∧ Below w.heap.size w w' :=
  Tryz.strings_ToLower_ascii (ba s) w (by rw [sz]; exact hs) (fun j b hj => ha b (List.mem_of_getElem? (show s[j]? = some b from hj)))
theorem info_set : (Tryz.prog.info? 102).map (fun i => (i.zero, i.size)) = some (some (.agg (Array.replicate 256 (.bool false))), 256) := by kernel_rfl
theorem Trim_c (s : Bs) (w : World) (hs : s.length ≤ 9223372036854775807) : Calls Tryz.prog 65 #[vs s, .string ⟨#[32, 9]⟩] w fun e w' => e = .returned (vs (trim s)) ∧ Below w.heap.size w w' :=
  Any.strings_Trim_laid Tryz.lays160 info_set (ba s) ⟨#[32, 9]⟩ w (by rw [sz]; exact hs) (by decide) (ascii_of_all (by decide))
end Go.Proofs.YtomancadpdccaaaGreatDoor.Ht

/-
  show: what it leans on; the leaves.
-/
import Derived.Test.YtminegmjklehnaaGreatDoorJsonV
import Derived.Lib.ItoaWalk
import Derived.Lib.AppendIntMem
namespace Go.Proofs.YtminegmjklehnaaGreatDoor.J
open Go.RowKit Go.Proofs.YtminegmjklehnaaGreatDoor.B
open Go.Proofs.YtminegmjklehnaaGreatDoor.M hiding Bs
open Go.Proofs.YtminegmjklehnaaGreatDoor.C (QRow Turn)
set_option linter.unusedVariables false
set_option linter.unusedSimpArgs false

def SmallJ : Js → Prop
  | .mk k n t names nk kid => (k = 2 → -9223372036854775808 ≤ n ∧ n ≤ 9223372036854775807) ∧ t.length ≤ 1000000000 ∧ (∀ x ∈ names, x.length ≤ 1000000000) ∧ nk ≤ 1000000000 ∧ (k = 5 → names.length = nk) ∧ (showJ (.mk k n t names nk kid)).length ≤ 1000000000 ∧ (k ≠ 0 → k ≠ 1 → k ≠ 2 → k ≠ 3 → ∀ i, SmallJ (kid i))
def TabP (w : World) : Prop := Lib.TabIs Tryz.prog w "internal/strconv.uint64pow10" .u64 Lib.pow10Tab
theorem TabP.below {w w' : World} (h : TabP w) (hb : Below w.heap.size w w') : TabP w' := Lib.tabBelow_of_tabIs h w' hb
def pieces (k : Int) (names : List Bs) {nk : Nat} (kid : Fin nk → Js) : List Bs := List.ofFn (fun i => piece k names i.val (showJ (kid i)))
theorem pieces_len (k : Int) (names : List Bs) {nk : Nat} (kid : Fin nk → Js) : (pieces k names kid).length = nk := by simp [pieces]
theorem pieces_get (k : Int) (names : List Bs) {nk : Nat} (kid : Fin nk → Js) (i : Nat) (hi : i < nk) : (pieces k names kid)[i]? = some (piece k names i (showJ (kid ⟨i, hi⟩))) := by simp [pieces, hi]
theorem showJ_mk (k n : Int) (t : Bs) (names : List Bs) (nk : Nat) (kid : Fin nk → Js) : showJ (.mk k n t names nk kid) = if k = 0 then [110, 117, 108, 108] else if k = 1 then (if n = 1 then [116, 114, 117, 101] else [102, 97, 108, 115, 101]) else if k = 2 then intT n else if k = 3 then quoteT t
    else if k = 5 then 123 :: (commas (pieces k names kid) ++ [125]) else 91 :: (commas (pieces k names kid) ++ [93]) := by rw [showJ]; rfl
theorem itoa_calls (n : Int) (h0 : -9223372036854775808 ≤ n) (h1 : n ≤ 9223372036854775807) (w : World) (ht : TabP w) : Calls Tryz.prog 61 #[.int .i64 n] w (ShowRet w (intT n)) := by
  refine (Tryz.strconv_Itoa n h0 h1 w ht).mono ?_
  rintro e w' ⟨rfl, k, os, hw⟩
  rw [intT_itoa]
  exact ⟨rfl, by rw [hw]; exact Lib.below_grow _ _ (Nat.le_refl _) k os⟩
theorem fbool_calls (b : Bool) (w : World) : Calls Tryz.prog 60 #[.bool b] w (ShowRet w (if b then [116, 114, 117, 101] else [102, 97, 108, 115, 101])) := by
  refine (Tryz.strconv_FormatBool b w).mono ?_
  rintro e w' ⟨rfl, rfl⟩
  rw [bool_text]
  exact ⟨rfl, Below.refl _ _⟩
theorem join_calls {w : World} {l : List Bs} {A : Option Addr} {c : Nat} (h : OwnL w 9 1 StrR (.slice A l.length c) l) (hn : l.length ≤ 1000000000) (hl : (commas l).length ≤ 1000000000) : Calls Tryz.prog 63 #[.slice A l.length c, .string ⟨#[44]⟩] w (ShowRet w (commas l)) := by
  cases l with
  | nil =>
    refine (Tryz.strings_Join_none A c ⟨#[44]⟩ w).mono ?_
    rintro e w' ⟨rfl, rfl⟩
    exact ⟨rfl, Below.refl _ _⟩
  | cons n0 l =>
    have hr := h.read (F := fun _ => True) (by decide) (fun _ _ => trivial)
    obtain ⟨css, h1, h2, h3⟩ := h
    rcases h2.2 with ⟨-, h0⟩ | ⟨g, off, cap, cur, hv, hg, hcap, ho, hc, ht⟩
    · simp at h0
    · simp only [Value.slice.injEq] at hv
      obtain ⟨rfl, -, rfl⟩ := hv
      generalize n0 :: l = l at *
      have e : (l.map fun b : Bs => (⟨b.toArray⟩ : ByteArray)).map (·.data.toList) = l := by simp [Function.comp_def]
      have e2 : (⟨#[44]⟩ : ByteArray).data.toList = [44] := rfl
      have hj := Tryz.strings_Join g off c (l.map fun b => ⟨b.toArray⟩) ⟨#[44]⟩ w (fun j x hx => by
        rw [List.getElem?_map] at hx
        obtain ⟨y, hy, rfl⟩ := Option.map_eq_some_iff.1 hx
        obtain ⟨a, p, e1, e2, -, e4⟩ := str_cell hr hy
        cases e1
        rw [Addr.add_lit] at e2
        rw [e2]; exact e4) (lt_of_heap hg) (by simp; omega) (by simp; omega) (by rw [e, e2, ← commas_join]; omega)
      rw [e, e2, ← commas_join, List.length_map] at hj
      exact hj
/-- show, of one value. -/
def SSpec (j : Js) : Prop := ∀ (w : World) (F : Nat → Prop) (k n : Int) (t : Bs) (A : Option Addr) (an ac : Nat) (B : Option Addr) (bn bc : Nat), JsV w F j (jAgg k n t A an ac B bn bc) → SmallJ j → TabP w →
  Calls Tryz.prog 36 #[jAgg k n t A an ac B bn bc] w (ShowRet w (showJ j))
set_option maxRecDepth 100000 in
set_option maxHeartbeats 4000000 in
theorem show_leaf {k n : Int} {t : Bs} {names : List Bs} {nk : Nat} {kid : Fin nk → Js} (hk : k = 0 ∨ k = 1 ∨ k = 2 ∨ k = 3) : SSpec (.mk k n t names nk kid) := by
  intro w F k' n' t' A an ac B bn bc h hs hT
  obtain ⟨rfl, rfl, rfl, rfl, rfl, -, -, -⟩ := h.shape
  have hj := heap_alloc_new w (.cells (jcs k' n' t' A names.length ac B bn bc) 27)
  have hb : Below w.heap.size w (w.alloc (.cells (jcs k' n' t' A names.length ac B bn bc) 27)) := (Below.refl _ w).alloc (Nat.le_refl _) _
  obtain ⟨j0, j1, j2, j3, j4, -⟩ := five_of hj
  have HB := Lib.hid hb
  have HT := Lib.hid (hT.below hb)
  unfold SmallJ at hs
  obtain ⟨hn, htl, -⟩ := hs
  have HNB := Lib.hid hn
  clear hn
  have HM := Lib.hid (showJ_mk k' n' t' names bn kid)
  clear h hT hj hb
  rcases hk with rfl | rfl | rfl | rfl
  · have HM2 := Lib.hid (HM.out.trans (show _ = [110, 117, 108, 108] by rw [if_pos rfl]))
    clear HM
    go_enter Tryz.func36, Tryz.ntmps36
    go_wp2
    go_ret
    exact ⟨by rw [HM2.out]; rfl, HB.out⟩
  · by_cases n1 : n' = 1
    · subst n1
      have HM2 := Lib.hid (HM.out.trans (show _ = [116, 114, 117, 101] by rw [if_neg (by decide), if_pos rfl, if_pos rfl]))
      clear HM
      go_enter Tryz.func36, Tryz.ntmps36
      go_wp2_with fail
      refine (fbool_calls true _).mono ?_
      rintro e w1 ⟨rfl, hb⟩
      have HB1 := Lib.hid (keepB HB.out hb)
      clear hb
      go_wp2
      go_ret
      exact ⟨by rw [HM2.out]; rfl, HB1.out⟩
    · have HM2 := Lib.hid (HM.out.trans (show _ = [102, 97, 108, 115, 101] by rw [if_neg (by decide), if_pos rfl, if_neg n1]))
      clear HM
      go_enter Tryz.func36, Tryz.ntmps36
      go_wp2_with fail
      rw [show (n' == 1) = false from beq_eq_false_iff_ne.2 n1]
      refine (fbool_calls false _).mono ?_
      rintro e w1 ⟨rfl, hb⟩
      have HB1 := Lib.hid (keepB HB.out hb)
      clear hb
      go_wp2
      go_ret
      exact ⟨by rw [HM2.out]; rfl, HB1.out⟩
  · have HM2 := Lib.hid (HM.out.trans (show _ = intT n' by rw [if_neg (by decide), if_neg (by decide), if_pos rfl]))
    obtain ⟨hn0, hn1⟩ := HNB.out rfl
    go_enter Tryz.func36, Tryz.ntmps36
    go_wp2_with fail
    refine (itoa_calls n' hn0 hn1 _ HT.out).mono ?_
    rintro e w1 ⟨rfl, hb⟩
    have HB1 := Lib.hid (keepB HB.out hb)
    clear hb
    go_wp2
    go_ret
    exact ⟨by rw [HM2.out]; rfl, HB1.out⟩
  · have HM2 := Lib.hid (HM.out.trans (show _ = quoteT t' by rw [if_neg (by decide), if_neg (by decide), if_neg (by decide), if_pos rfl]))
    go_enter Tryz.func36, Tryz.ntmps36
    go_wp2_with fail
    refine (quote_calls t' _ htl).mono ?_
    rintro e w1 ⟨rfl, hb⟩
    have HB1 := Lib.hid (keepB HB.out hb)
    clear hb
    go_wp2
    go_ret
    exact ⟨by rw [HM2.out]; rfl, HB1.out⟩
end Go.Proofs.YtminegmjklehnaaGreatDoor.J

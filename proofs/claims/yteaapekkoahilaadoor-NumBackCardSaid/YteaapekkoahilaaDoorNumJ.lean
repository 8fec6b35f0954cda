/-
  The laws of layer 1, walked: NumSums, NumHexes.
-/
import Derived.Test.YteaapekkoahilaaDoorNumI
namespace Go.Proofs.YteaapekkoahilaaDoor.Nu
open Go.RowKit Go.Proofs.YteaapekkoahilaaDoor.B Go.Proofs.YteaapekkoahilaaDoor.S01
set_option linter.unusedVariables false
set_option linter.unusedSimpArgs false

theorem own_below {w w' : World} {B : Nat} {v : Value} {l : List UInt8} (h : BOwn w B v l) (hb : Below w.heap.size w w') : BOwn w' B v l := by
  refine ⟨h.1, ?_⟩
  rcases h.2 with h | ⟨g, cap, cur, h0, h1, h2, h3⟩
  · exact .inl h
  · refine .inr ⟨g, cap, cur, h0, h1, ?_, h3⟩
    rw [hb.block g (by
      rcases Nat.lt_or_ge g w.heap.size with h' | h'
      · exact h'
      · rw [Array.getElem?_eq_none h'] at h2; cases h2)]
    exact h2
def wideF (x : Int) : List UInt8 := (List.range 8).map fun i => toB (wb x i)
theorem wb_range (x : Int) (i : Nat) : 0 ≤ wb x i ∧ wb x i ≤ 255 := by unfold wb; omega
theorem wide_cells (x : Int) : (wcells x 8).toList = (wideF x).map vb := by
  unfold wcells wideF
  rw [List.map_map]
  refine List.map_congr_left fun i hi => ?_
  have hi : i < 8 := by simpa using hi
  have h := wb_range x i
  simp only [hi, if_true, Function.comp, vb]
  rw [toB_nat h.1 h.2]
theorem wide_own (x : Int) (w : World) : BOwn (w.alloc (.cells (wcells x 8) 5)) w.heap.size (.slice (some ⟨w.heap.size, 0, none⟩) 8 8) (wideF x) := by
  have hz : (wideF x).length = 8 := by simp [wideF]
  refine ⟨by simp, .inr ⟨w.heap.size, 8, wcells x 8, by rw [hz], Nat.le_refl _, alloc_at _ _ _ rfl, by omega, by unfold maxLen; omega, ?_, ?_⟩⟩
  · have := congrArg List.length (wide_cells x)
    simpa [hz] using this
  · rw [wide_cells, hz, List.take_of_length_le (by simp [hz])]
theorem Wide_own (x : Int) (w : World) : Calls Tryd.prog 22 #[.int .i64 x] w (OwnPost w (wideF x)) :=
  (Wide_calls x w).mono (by
    rintro e w2 ⟨rfl, rfl⟩
    exact ⟨_, rfl, wide_own x w, belAlloc (Below.refl _ _) _⟩)
theorem refWide_own (x : Int) (w : World) : Calls Tryd.prog 25 #[.int .i64 x] w (OwnPost w (wideF x)) :=
  (refWide_calls x w).mono (by
    rintro e w2 ⟨rfl, rfl⟩
    exact ⟨_, rfl, wide_own x w, belAlloc (Below.refl _ _) _⟩)
/-- What Unhex gives, as a string. -/
theorem unhex_conv {w w' : World} {l : List UInt8} {e : Ending} (h : UnhexPost w l e w') : ∃ v, e = .returned (.tuple #[v, .bool (unhexF l).isSome]) ∧ Below w.heap.size w w' ∧ ∀ W, Below w'.heap.size w' W → (convert 22 9 v).run Tryd.prog W = .ok (.string ⟨((unhexF l).getD []).toArray⟩) W := by
  obtain ⟨hb, h | h⟩ := h
  · obtain ⟨v, out, h1, h2, h3⟩ := h
    exact ⟨v, by rw [h2, h1]; rfl, hb, fun W hW => by rw [h1]; exact own_conv (own_below h3 hW)⟩
  · exact ⟨_, by rw [h.2, h.1]; rfl, hb, fun W _ => by rw [h.1]; exact own_conv (base := 0) (BOwn.nil W 0)⟩
def TruePost (w : World) (e : Ending) (w' : World) : Prop := e = .returned (.bool true) ∧ Below w.heap.size w w'
set_option maxRecDepth 100000 in
set_option maxHeartbeats 1000000 in
theorem NumSums_calls (A : Option Addr) (n c : Nat) (l : List UInt8) (w : World) (hr : BRead w A n l) (ht : Tab w) :
    Calls Tryd.prog 5 #[.slice A n c] w (TruePost w) := by
  have HR := Lib.hid hr; clear hr
  by_cases hn : (n : Int) > 5000
  · go_enter Tryd.func5, Tryd.ntmps5
    go_wp2_with fail
    refine (awake_calls w ht).mono ?_
    rintro e w1 ⟨rfl, hb1⟩
    go_wp2
    go_ret
    exact ⟨rfl, hb1⟩
  · go_enter Tryd.func5, Tryd.ntmps5
    go_wp2_with fail
    refine (awake_calls w ht).mono ?_
    rintro e w1 ⟨rfl, hb1⟩
    go_wp2_with fail
    refine (Crc_calls A n c l w1 (HR.out.below hb1)).mono ?_
    rintro e w2 ⟨rfl, rfl⟩
    go_wp2_with fail
    refine (refCrc_calls A n c l w1 (HR.out.below hb1)).mono ?_
    rintro e w2 ⟨rfl, rfl⟩
    go_wp2
    go_ret
    exact ⟨rfl, hb1⟩
set_option maxRecDepth 100000 in
set_option maxHeartbeats 1000000 in
theorem NumHexes_calls (A : Option Addr) (n c : Nat) (l : List UInt8) (s : ByteArray) (w : World) (hr : BRead w A n l) (hn : n ≤ 1099511627776) (hs : s.size ≤ 281474976710656) (ht : Tab w) :
    Calls Tryd.prog 3 #[.slice A n c, .string s] w (TruePost w) := by
  have HR := Lib.hid hr; clear hr
  go_enter Tryd.func3, Tryd.ntmps3
  go_wp2_with fail
  refine (awake_calls w ht).mono ?_
  rintro e w1 ⟨rfl, hb1⟩
  go_wp2_with fail
  refine (Unhex_calls s w1 hs).mono ?_
  intro e w2 h
  obtain ⟨v2, rfl, hb2', hc2⟩ := unhex_conv h
  have hb2 := keepB hb1 hb2'
  clear h hb2'
  go_wp2_with fail
  refine (refUnhex_calls s w2 hs).mono ?_
  intro e w3 h
  obtain ⟨v3, rfl, hb3', hc3⟩ := unhex_conv h
  have hb3 := keepB hb2 hb3'
  have HC3 := Lib.hid hc3
  have HC2 := Lib.hid (fun (W : World) (hW : Below w3.heap.size w3 W) => hc2 W (keepB hb3' hW))
  clear h hc2 hc3
  generalize (unhexF s.data.toList).isSome = q
  go_wp2_with fail
  refine (Hex_calls A n c l w3 (HR.out.below hb3) hn).mono ?_
  rintro e w4 ⟨rfl, hb4'⟩
  have hb4 := keepB hb3 hb4'
  go_wp2_with fail
  refine (refHex_calls A n c l w4 (HR.out.below hb4) hn).mono ?_
  rintro e w5 ⟨rfl, hb5'⟩
  have hb5 := keepB hb4 hb5'
  have c2 := HC2.out w5 (keepB hb4' hb5')
  have c3 := HC3.out w5 (keepB hb4' hb5')
  go_wp2
  go_ret
  exact ⟨rfl, hb5⟩
end Go.Proofs.YteaapekkoahilaaDoor.Nu

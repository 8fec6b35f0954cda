/-
  LangParses: the walk.
-/
import Derived.Test.YtgmlcnikphbiiaaDoorLangZ13
import Derived.Test.YtgmlcnikphbiiaaDoorLangW
namespace Go.Proofs.YtgmlcnikphbiiaaDoor.L
open Go.RowKit Go.Proofs.YtgmlcnikphbiiaaDoor.B Go.Proofs.YtgmlcnikphbiiaaDoor.S10 Go.Proofs.YtgmlcnikphbiiaaDoor.Nm
open Go.Proofs.YtgmlcnikphbiiaaDoor.C (QRow Turn wpList_append_q)
set_option linter.unusedVariables false
set_option linter.unusedSimpArgs false

def tsOf : Except Dg (List Ty) → List Ty
  | .error _ => []
  | .ok ts => ts
def dgOf : Except Dg (List Ty) → Dg
  | .error d => d
  | .ok _ => ⟨0, 0, 0⟩
theorem par_val {w : World} {r : Except Dg (List Ty)} {e : Ending} {w' : World} (h : PaRet w r e w') : Below w.heap.size w w' ∧
    ∃ A n c, e = .returned (.tuple #[.agg #[.slice A n c], .agg #[.int .i64 (dgOf r).line, .int .i64 (dgOf r).col, .int .i64 (dgOf r).e]]) ∧ SchV w' (fun b => w.heap.size ≤ b) (tsOf r) (.agg #[.slice A n c]) := by
  obtain ⟨hb, ⟨d, rfl, he⟩ | ⟨ts, A, n, c, rfl, he, hs⟩⟩ := par_cases h
  · exact ⟨hb, none, 0, 0, he, SchV.nil _ _⟩
  · exact ⟨hb, A, n, c, he, A, n, c, rfl, hs⟩
theorem boxes_at (w : World) (x y0 y1 y2 : Value) :
    ((w.alloc (.cells #[x] 25)).alloc (.cells #[y0, y1, y2] 28)).heap[w.heap.size]? = some (.cells #[x] 25 (0, 0)) ∧
    ((w.alloc (.cells #[x] 25)).alloc (.cells #[y0, y1, y2] 28)).heap[w.heap.size + 1]? = some (.cells #[y0, y1, y2] 28 (0, 0)) ∧
    ((w.alloc (.cells #[x] 25)).alloc (.cells #[y0, y1, y2] 28)).heap.size = w.heap.size + 2 ∧
    Below w.heap.size w ((w.alloc (.cells #[x] 25)).alloc (.cells #[y0, y1, y2] 28)) := by
  have g0 := heap_alloc_new w (.cells #[x] 25)
  have g1 := heap_alloc_new (w.alloc (.cells #[x] 25)) (.cells #[y0, y1, y2] 28)
  have gs : (w.alloc (.cells #[x] 25)).heap.size = w.heap.size + 1 := by simp
  rw [gs] at g1
  exact ⟨(alloc_old _ (by simp)).trans g0, g1, by simp, ((Below.refl _ w).alloc (Nat.le_refl _) _).alloc (by simp) _⟩
set_option maxRecDepth 100000 in
set_option maxHeartbeats 4000000 in
theorem LangParses_list (text : Bs) (hl : text.length ≤ 140737488351232) (w : World) : Calls Tryd.prog 3 #[vs text] w (BRet w true) := by
  have hsz := sz text
  by_cases hlong : 5000 < text.length
  · go_enter Tryd.func3, Tryd.ntmps3
    go_wp2_with fail
    refine (awake_calls w).mono ?_
    rintro e w0 ⟨rfl, hb0⟩
    have HB0 := Lib.hid hb0
    clear hb0
    go_wp2
    go_ret
    exact ⟨rfl, HB0.out⟩
  have P1 := Lib.hid (fun w => Parse_calls text w (by omega))
  have P2 := Lib.hid (fun w => rParse_calls text w (by omega))
  generalize parseP text = r at *
  go_enter Tryd.func3, Tryd.ntmps3
  go_wp2_with fail
  refine (awake_calls w).mono ?_
  rintro e w0 ⟨rfl, hb0⟩
  have HB0 := Lib.hid hb0
  clear hb0
  go_wp2_with fail
  refine (P1.out w0).mono ?_
  intro e w1 h1
  obtain ⟨hb1, A, n, c, rfl, hs1⟩ := par_val h1
  have HB1 := Lib.hid (keepB HB0.out hb1)
  have HS1 := Lib.hid hs1
  clear h1 hb1 hs1
  generalize hda : (dgOf r).line = a at *
  generalize hdb : (dgOf r).col = b at *
  generalize hdk : (dgOf r).e = k at *
  go_wp2_with fail
  refine (P2.out _).mono ?_
  intro e w2 h2
  obtain ⟨hb2, A', n', c', rfl, hs2⟩ := par_val h2
  rw [hda, hdb, hdk]
  obtain ⟨g0, g1, gs, gb⟩ := boxes_at w1 (.slice A n c) (.int .i64 a) (.int .i64 b) (.int .i64 k)
  have hr0 := (hb2.block _ (lt_of_heap g0)).trans g0
  have hr1 := (hb2.block _ (lt_of_heap g1)).trans g1
  have hb12 := below_then gb gb.size hb2
  have HB2 := Lib.hid (keepB HB1.out hb12)
  have HS1' := Lib.hid (SchV.below HS1.out hb12)
  have HS2 := Lib.hid hs2
  obtain ⟨k0, k1, ks, kb⟩ := boxes_at w2 (.slice A' n' c') (.int .i64 a) (.int .i64 b) (.int .i64 k)
  have m0 := (kb.block _ (lt_of_heap hr0)).trans hr0
  have m1 := (kb.block _ (lt_of_heap hr1)).trans hr1
  have HKB := Lib.hid kb
  have HM1 := Lib.hid m1
  have HK1 := Lib.hid k1
  have s0 := cells_of m0 0 (.slice A n c) rfl
  have s1 := cells_of k0 0 (.slice A' n' c') rfl
  clear g0 g1 gs gb hr0 hr1 hb12 hs2 hb2 h2 m0 m1 k0 k1 ks kb hda hdb hdk
  go_wp2_with fail
  refine (Schemas_calls _ _ _ _ _ _ _ (SchV.below HS1'.out HKB.out) (SchV.below HS2.out HKB.out)).mono ?_
  rintro e w3 ⟨rfl, hb3⟩
  rw [schemasB_refl]
  have hx := (hb3.block _ (lt_of_heap HM1.out)).trans HM1.out
  have hy := (hb3.block _ (lt_of_heap HK1.out)).trans HK1.out
  obtain ⟨x0, x1, x2⟩ := three_of hx
  obtain ⟨y0, y1, y2⟩ := three_of hy
  have HB3 := Lib.hid (keepB HB2.out (below_then HKB.out HKB.out.size hb3))
  clear hx hy hb3 s0 s1
  go_wp2
  go_ret
  exact ⟨rfl, HB3.out⟩
theorem LangParses_calls (s : ByteArray) (w : World) (hs : s.size ≤ 140737488351232) : Calls Tryd.prog 3 #[.string s] w (BRet w true) := by
  obtain ⟨⟨l⟩⟩ := s
  exact LangParses_list l (by rw [sz] at hs; exact hs) w
end Go.Proofs.YtgmlcnikphbiiaaDoor.L

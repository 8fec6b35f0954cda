/-
  Contracts of package num: a number as text; the chapter's examples.
-/
import Derived.Test.YteaapekkoahilaaDoorNumH
import Derived.Test.YteaapekkoahilaaDoorShelf
import Derived.Lib.AppendIntMem
import Derived.Lib.SlBytesConst
namespace Go.Proofs.YteaapekkoahilaaDoor.Nu
open Go.RowKit Go.Proofs.YteaapekkoahilaaDoor.B Go.Proofs.YteaapekkoahilaaDoor.S01
set_option linter.unusedVariables false
set_option linter.unusedSimpArgs false

/-- The library's table is as it was. -/
def Tab (w : World) : Prop := Lib.TabIs Tryd.prog w "internal/strconv.uint64pow10" .u64 Lib.pow10Tab
theorem Tab.below {w w' : World} (h : Tab w) (hb : Below w.heap.size w w') : Tab w' := Lib.tabBelow_of_tabIs h w' hb
theorem bRead_of {w : World} {b : Nat} {cs : Array Value} {t : TypeId} {fr : Nat × Nat} (l : List UInt8) (hb : w.heap[b]? = some (.cells cs t fr)) (n : Nat) (hn : l.length = n) (hs : n ≤ 1000000) (hc : ∀ i : Nat, i < n → cs[i]? = some (.int .u8 (by' l i))) : BRead w (some ⟨b, 0, none⟩) n l := by
  refine ⟨hn, by omega, fun _ => ⟨_, rfl, fun i hi => ?_⟩⟩
  have hadd : (⟨b, 0, none⟩ : Addr).add i = ⟨b, i, none⟩ := by unfold Addr.add; split <;> simp_all
  rw [hadd, cell_of_row w b i cs t fr hb]
  exact hc i hi
theorem bRead_new (w : World) (l : List UInt8) (t : TypeId) (cs : Array Value) (n : Nat) (hn : l.length = n) (hs : n ≤ 1000000) (hcs : cs = (l.map vb).toArray) (fr : Nat × Nat := (0, 0)) : BRead (w.alloc (.cells cs t fr)) (some ⟨w.heap.size, 0, none⟩) n l := by
  subst hcs
  refine bRead_of (cs := (l.map vb).toArray) (t := t) (fr := fr) l (by simp [World.alloc, -World.alloc_eq]) n hn hs (fun i hi => ?_)
  have hi' : i < l.length := by omega
  simp [List.getElem?_eq_getElem hi', vb, by', List.getD_eq_getElem?_getD]
theorem own_read {w : World} {base : Nat} {v : Value} {l : List UInt8} (h : BOwn w base v l) (hs : l.length ≤ 9223372036854775807) : ∃ A c, v = .slice A l.length c ∧ BRead w A l.length l ∧ (A = none → l.length = 0) := by
  rcases h.2 with ⟨rfl, h0⟩ | ⟨g, cap, cur, rfl, _⟩
  · have hl : l = [] := List.eq_nil_of_length_eq_zero (by simpa using h0)
    subst hl
    exact ⟨none, 0, rfl, ⟨rfl, by simp, fun h => by simp at h⟩, fun _ => rfl⟩
  · refine ⟨some ⟨g, 0, none⟩, cap, rfl, ⟨rfl, by omega, fun _ => ⟨_, rfl, fun i hi => ?_⟩⟩, fun h => by simp at h⟩
    have hc := World.ownsRow.cells h rfl i (.int .u8 ((l[i]).toNat : Int)) (by simp [List.getElem?_eq_getElem hi, vb])
    rw [hc]
    simp [by', List.getD_eq_getElem?_getD, hi]
theorem alloc_at (w : World) (o : Obj) (b : Nat) (hb : w.heap.size = b) : (w.alloc o).heap[b]? = some o := by subst hb; simp [World.alloc, -World.alloc_eq]
theorem Show_calls (n : Int) (h0 : -9223372036854775808 ≤ n) (h1 : n ≤ 9223372036854775807) (w : World) (ht : Tab w) :
    Calls Tryd.prog 28 #[.int .i64 n] w fun e w' => e = .returned (.string ⟨(Lib.itoa n).toArray⟩) ∧ Below w.heap.size w w' := by
  go_enter Tryd.func28, Tryd.ntmps28
  go_wp2_with fail
  refine (Tryd.strconv_Itoa n h0 h1 w ht).mono ?_
  rintro e w' ⟨rfl, k, os, hw⟩
  have hb : Below w.heap.size w w' := by rw [hw]; exact Lib.below_grow _ _ (Nat.le_refl _) k os
  clear hw
  go_wp2
  go_ret
  exact ⟨rfl, hb⟩
theorem e1 : unhexF [48, 65] = none := by decide +kernel
theorem e2 : unhexF [48, 97] = some [10] := by decide +kernel
theorem e3 : getF [172, 2, 7] = (300, 2) := by decide +kernel
theorem e4 : hexF [10, 255] = [48, 97, 102, 102] := by decide +kernel
theorem e5 : putF [] 300 = [172, 2] := by decide +kernel
theorem e6 : crcF [49, 50, 51, 52, 53, 54, 55, 56, 57] = 3421780262 := by decide +kernel
theorem e7 : Lib.itoa (-7) = [45, 55] := by rw [Lib.itoa, if_pos (by decide), Lib.decDigits, dif_pos (by decide)]; rfl
theorem e8 : wcells 258 8 = #[.int .u8 0, .int .u8 0, .int .u8 0, .int .u8 0, .int .u8 0, .int .u8 0, .int .u8 1, .int .u8 2] := by kernel_rfl
set_option maxRecDepth 100000 in
set_option maxHeartbeats 4000000 in
theorem awake_calls (w : World) (ht : Tab w) :
    Calls Tryd.prog 11 #[] w fun e w' => e = .returned (.bool true) ∧ Below w.heap.size w w' := by
  have HT := Lib.hid ht; clear ht
  go_enter Tryd.func11, Tryd.ntmps11
  go_wp2_with fail
  refine (Unhex_calls ⟨#[48, 65]⟩ w (by decide)).mono ?_
  rintro e w1 ⟨hb1, h⟩
  rw [show (⟨#[48, 65]⟩ : ByteArray).data.toList = [48, 65] from rfl, e1] at h
  rcases h with ⟨v, out, h, _⟩ | ⟨_, rfl⟩
  · simp at h
  go_wp2_with fail
  refine (Unhex_calls ⟨#[48, 97]⟩ w1 (by decide)).mono ?_
  rintro e w2 ⟨hb2', h⟩
  rw [show (⟨#[48, 97]⟩ : ByteArray).data.toList = [48, 97] from rfl, e2] at h
  rcases h with ⟨v2, out, h, rfl, hown2⟩ | ⟨h, _⟩
  rotate_left
  · simp at h
  have hout : out = [10] := by simpa using h.symm
  subst hout
  clear h
  have hb2 : Below w.heap.size w w2 := keepB hb1 hb2'
  obtain ⟨A2, c2, hv2, hr2, _⟩ := own_read hown2 (by decide)
  obtain rfl := hv2
  obtain ⟨ad2, e, hcell2⟩ := hr2.at_ 0 (by decide)
  subst e
  clear hown2 hr2 hb2'
  go_wp2_with fail
  refine (Get_calls (some ⟨w2.heap.size, 0, none⟩) 3 3 [172, 2, 7] _ (bRead_new w2 [172, 2, 7] _ _ 3 rfl (by decide) rfl)).mono ?_
  rw [e3]
  rintro e w3 ⟨rfl, rfl⟩
  go_wp2_with fail
  refine (Wide_calls 258 _).mono ?_
  rw [e8]
  rintro e w4 ⟨rfl, hw4⟩
  have hc0 : w4.cell? ad2 = some (.int .u8 10) := by
    rw [hw4]; exact cellAlloc (cellAlloc (by simpa [by', Addr.add] using hcell2) _) _
  have hb4 : Below w.heap.size w w4 := by rw [hw4]; exact belAlloc (belAlloc hb2 _) _
  have hw : w4.heap[w2.heap.size + 1]? = some (.cells #[.int .u8 0, .int .u8 0, .int .u8 0, .int .u8 0, .int .u8 0, .int .u8 0, .int .u8 1, .int .u8 2] 5 (0, 0)) := by rw [hw4]; exact alloc_at _ _ _ (by simp [World.alloc, -World.alloc_eq])
  have hc6 : w4.cell? ⟨w2.heap.size + 1, 6, none⟩ = some (.int .u8 1) := by rw [cell_of_row _ _ _ _ _ _ hw]; rfl
  have hc7 : w4.cell? ⟨w2.heap.size + 1, 7, none⟩ = some (.int .u8 2) := by rw [cell_of_row _ _ _ _ _ _ hw]; rfl
  have hz2 : (w2.alloc (.cells #[vb 172, vb 2, vb 7] 5)).heap.size = w2.heap.size + 1 := by simp [World.alloc, -World.alloc_eq]
  rw [hz2]
  clear hw hw4 hz2 hcell2
  generalize w2.heap.size + 1 = B at *
  go_wp2_with fail
  refine (Hex_calls (some ⟨w4.heap.size, 0, none⟩) 2 2 [10, 255] _ (bRead_new w4 [10, 255] _ _ 2 rfl (by decide) rfl) (by decide)).mono ?_
  rw [e4]
  rintro e w5 ⟨rfl, hb5'⟩
  have hb45 : Below w4.heap.size w4 w5 := keepB (belAlloc (Below.refl _ _) _) hb5'
  have hb5 : Below w.heap.size w w5 := keepB hb4 hb45
  have hc0 := keepC hb45 hc0
  have hc6 := keepC hb45 hc6
  have hc7 := keepC hb45 hc7
  clear hb45 hb5' hb4
  go_wp2_with fail
  refine (Put_calls none 0 0 [] 300 _ ⟨rfl, by decide, fun h => by simp at h⟩ (by decide) (fun _ => rfl) (by decide) (by decide)).mono ?_
  rw [e5]
  rintro e w6 ⟨v6, rfl, hown6, hb6'⟩
  have hb6 : Below w.heap.size w w6 := keepB hb5 hb6'
  have hc0 := keepC hb6' hc0
  have hc6 := keepC hb6' hc6
  have hc7 := keepC hb6' hc7
  have hcv := own_conv hown6
  clear hb6' hown6
  have kc := fun (w : World) (C : Array Value) (n c : Nat) => Lib.run_convert_bytes_const (P := Tryd.prog) w 22 5 C n c Tryd.underlying22 Tryd.underlying5
  go_wp2_with fail
  refine (Crc_calls (some ⟨w6.heap.size, 0, none⟩) 9 9 [49, 50, 51, 52, 53, 54, 55, 56, 57] _ (bRead_new w6 [49, 50, 51, 52, 53, 54, 55, 56, 57] _ _ 9 rfl (by decide) rfl (9, 10))).mono ?_
  rw [e6]
  rintro e w7 ⟨rfl, rfl⟩
  have hb7 := belAlloc hb6 (.cells #[vb 49, vb 50, vb 51, vb 52, vb 53, vb 54, vb 55, vb 56, vb 57] 5 (9, 10))
  go_wp2_with fail
  refine (Show_calls (-7) (by decide) (by decide) _ (HT.out.below hb7)).mono ?_
  rw [e7]
  rintro e w8 ⟨rfl, hb8'⟩
  have hb8 := keepB hb7 hb8'
  go_wp2
  go_ret
  exact ⟨rfl, hb8⟩
end Go.Proofs.YteaapekkoahilaaDoor.Nu

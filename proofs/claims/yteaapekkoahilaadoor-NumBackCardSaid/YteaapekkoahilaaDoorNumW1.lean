/-
  Bytes that came in, as a string; append of nothing; the empty slice.
-/
import Derived.Test.YteaapekkoahilaaDoorNumW0
import Derived.Test.YteaapekkoahilaaDoorNumG2
import Derived.Test.YteaapekkoahilaaDoorNumJ2
namespace Go.Proofs.YteaapekkoahilaaDoor.Nu
open Go.RowKit Go.Proofs.YteaapekkoahilaaDoor.B Go.Proofs.YteaapekkoahilaaDoor.S01
set_option linter.unusedVariables false
set_option linter.unusedSimpArgs false

theorem conv_arg {w : World} {A : Option Addr} {n c : Nat} {l : List UInt8} (h : BRead w A n l) (hA : A = none → n = 0) : (convert 22 9 (.slice A n c)).run Tryd.prog w = .ok (.string ⟨l.toArray⟩) w := by
  cases A with
  | none =>
    obtain rfl := hA rfl
    have hl : l = [] := List.eq_nil_of_length_eq_zero h.1
    subst hl
    exact run_convert_bytes_nil w 22 5 Tryd.underlying22 Tryd.underlying5 _ _ 9 rfl
  | some ad =>
    have hcells : ∀ i, i < n → w.cell? (ad.add i) = some (.int .u8 (by' l i)) := fun i hi => by
      obtain ⟨ad', e, hc⟩ := h.at_ i hi
      cases e; exact hc
    have hl : (loadCells ad n).run Tryd.prog w = .ok (l.map vb).toArray w := by
      have := run_loadCells_list (P := Tryd.prog) w ad (l.map vb) (news_of h.1 hcells)
      rw [List.length_map, h.1] at this
      exact this
    rw [run_convert_bytes_string w 22 9 5 _ n c Tryd.underlying22 Tryd.underlying5 rfl]
    have hl2 : (loadCells ad n).run Tryd.prog w = .ok ((l.map fun b => (b.toNat : Int)).map (Value.int .u8)).toArray w := by
      rw [hl, List.map_map]; rfl
    rw [run_bytesToString w _ n c _ hl2, foldl_push_bytes]
    simp [ByteArray.empty, ByteArray.emptyWithCapacity, List.map_map, Function.comp_def]
    rfl
theorem run_append_none {w : World} (ty : TypeId) (a : Addr) (n cap c : Nat) (h : n ≤ cap) {i : TypeInfo} (hi : Tryd.prog.info? 5 = some i) : (Builtin.append_ #[22, 22] ty #[.slice (some a) n cap, .slice none 0 c]).run Tryd.prog w = .ok (.slice (some a) n cap) w := by
  simp [Builtin.append_, run_underlying Tryd.underlying22, sizeOf, typeInfo, hi, Builtin.lenOf, Builtin.firstCells, h, storeCells]
theorem putF_size {x : Int} (h0 : 0 ≤ x) (h1 : x ≤ 9223372036854775807) : 1 ≤ (putF [] x).length ∧ (putF [] x).length ≤ 10 := by
  obtain ⟨k, hk, ha, hn⟩ := groups h0 h1
  rw [putF_at [] h0 (by omega) ha hn]
  simp [grp_len]; omega
theorem bread_nil (w : World) : BRead w none 0 [] := ⟨rfl, by simp, fun h => by omega⟩
end Go.Proofs.YteaapekkoahilaaDoor.Nu

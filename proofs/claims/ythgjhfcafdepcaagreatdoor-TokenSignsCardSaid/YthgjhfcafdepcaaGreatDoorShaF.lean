/-
  SHA-256: Copy and Sum (the program's).
-/
import Derived.Test.YthgjhfcafdepcaaGreatDoorShaE
import Derived.Test.YthgjhfcafdepcaaGreatDoorNumZ
namespace Go.Proofs.YthgjhfcafdepcaaGreatDoor.Sh
open Go.RowKit Go.Proofs.YthgjhfcafdepcaaGreatDoor.B
open Go.Proofs.YthgjhfcafdepcaaGreatDoor.M hiding Bs
open Go.Proofs.YthgjhfcafdepcaaGreatDoor.C (QRow Turn)
set_option linter.unusedVariables false
set_option linter.unusedSimpArgs false

set_option maxRecDepth 100000 in
set_option maxHeartbeats 4000000 in
theorem Copy_calls {w : World} {sb : Nat} {s : V8} {ov : Bs} {n : Nat} (h : StB w sb s ov n) :
    Calls Tryz.prog 72 #[.pointer (some ⟨sb, 0, none⟩)] w fun e w' => e = .returned (.pointer (some ⟨w.heap.size, 0, none⟩)) ∧ w' = w.alloc (.cells (stL s ov n).toArray 94) := by
  obtain ⟨C, hC⟩ : ∃ C, stL s ov n = C := ⟨_, rfl⟩
  have hl : C.length = 73 := by rw [← hC]; simp [stL, sV, byC, h.2]
  have HC := Lib.hid hC
  have H := Lib.hid h
  have hr : w.rangeAt sb 0 C := fun j v hv => by rw [Nat.zero_add]; exact h.cell (by rw [hC]; exact hv)
  have hi : (Tryz.prog.info? 94).map (·.size) = some C.length := by rw [hl]; kernel_rfl
  have h1 : C.toArray.all (·.oneCell') = true := all_oneCell_toArray (fun v hv => by
    rw [← hC] at hv
    unfold stL sV byC at hv
    simp at hv
    rcases hv with h | h | h | h | h | h | h | h | ⟨x, _, h⟩ | h <;> subst h <;> rfl)
  have hz73 : Tryz.zeroCells94.size = 73 := by kernel_rfl
  have hzs : Tryz.zeroCells94.size = C.toArray.size := by rw [hz73, List.size_toArray, hl]
  have hst : (storeCells ⟨w.heap.size, 0, none⟩ C).run Tryz.prog (w.alloc (.cells Tryz.zeroCells94 94)) = .ok () (w.alloc (.cells C.toArray 94)) := by
    have := run_storeCells_new (P := Tryz.prog) w 94 Tryz.zeroCells94 C.toArray (by simpa using hi) hzs h1
    simpa using this
  clear h hC
  go_enter Tryz.func72, Tryz.ntmps72
  go_wp2_with (refine wpList_load_mid rfl 94 (.tmp 5) rfl sb 0 rfl C _ hr Tryz.underlying94 rfl hi ?_)
  go_ret
  exact ⟨rfl, by rw [HC.out]⟩
theorem BOwn.rd {w : World} {base : Nat} {v : Value} {l : Bs} {F : Nat → Prop} (h : Nu.BOwn w base v l) (hF : ∀ b, base ≤ b → F b) : ∃ A c, v = .slice A l.length c ∧ l.length ≤ c ∧ RdB w F A l := by
  obtain ⟨h1, h2⟩ := h
  rcases h2 with ⟨rfl, h0⟩ | ⟨g, cap, cur, rfl, hb, hg, hn, hc, hs, ht⟩
  · refine ⟨none, 0, by rw [h0], by omega, fun i x hx => ?_⟩
    rw [List.eq_nil_of_length_eq_zero h0] at hx
    simp at hx
  · refine ⟨_, _, rfl, hn, fun i x hx => ⟨_, rfl, hF _ hb, ?_⟩⟩
    rw [Addr.add_mid, cell_of_row w g _ cur 5 (0, 0) hg]
    have hi : i < l.length := (List.getElem?_eq_some_iff.1 hx).1
    have : (cur.toList.take (l.length * 1))[i]? = some (.int .u8 (x.toNat : Int)) := by rw [ht, List.getElem?_map, hx]; rfl
    rw [List.getElem?_take] at this
    split at this
    · simpa using this
    · cases this
theorem BOwn.lit {w : World} {base : Nat} (hb : base ≤ w.heap.size) (x : UInt8) : Nu.BOwn (w.alloc (.cells #[.int .u8 (x.toNat : Int)] 5)) base (.slice (some ⟨w.heap.size, 0, none⟩) 1 1) [x] :=
  ⟨rfl, .inr ⟨_, 1, _, rfl, hb, heap_alloc_new w _, Nat.le_refl _, by unfold maxLen; omega, rfl, rfl⟩⟩
theorem BOwn.many {w : World} {base : Nat} {v : Value} {l m : Bs} {n k : Nat} {zs : List Value} (h : w.ownsRow base 5 1 v (n + k) (l.map Nu.vb ++ zs)) (hn : l.length = n) (hk : m.length = k) (hz : zs = m.map Nu.vb) : Nu.BOwn w base v (l ++ m) := by
  subst hz; subst hn; subst hk
  unfold Nu.BOwn
  rw [List.length_append, List.map_append]
  exact h
theorem BOwn.row' {w : World} {base : Nat} {v : Value} {l : Bs} {n : Nat} (h : Nu.BOwn w base v l) (hn : l.length = n) : w.ownsRow base 5 1 v n (l.map Nu.vb) := by subst hn; exact h
theorem zeros_snoc (k : Nat) : (128 :: List.replicate k (0 : UInt8)) ++ [0] = 128 :: List.replicate (k + 1) 0 := by rw [List.cons_append, List.replicate_succ']
/-- what is put behind the bytes, so far. -/
def lb (n i : Nat) : UInt8 := UInt8.ofNat (n * 8 / 256 ^ (7 - i))
def endB (n i : Nat) : Bs := (128 :: List.replicate (zeros n) 0) ++ (List.range i).map (lb n)
theorem endB_8 (n : Nat) : endB n 8 = padB n := by
  have h : (List.range 8).map (lb n) = lenB n := by
    show [lb n 0, lb n 1, lb n 2, lb n 3, lb n 4, lb n 5, lb n 6, lb n 7] = lenB n
    have e : lb n 7 = UInt8.ofNat (n * 8) := by
      unfold lb
      rw [show 256 ^ (7 - 7) = 1 from rfl, Nat.div_one]
    rw [e]
    rfl
  unfold endB padB
  rw [h]
theorem endB_len (n i : Nat) : (endB n i).length = 1 + zeros n + i := by
  unfold endB
  simp
  omega
theorem endB_succ (n i : Nat) : endB n (i + 1) = endB n i ++ [lb n i] := by
  unfold endB
  rw [List.range_succ, List.map_append, ← List.append_assoc]
  rfl
theorem lb_int (n i : Nat) (k : Nat) (hk : 256 ^ (7 - i) = k) (h0 : 0 < k) : ((n : Int) * 8 / (k : Int)) % 256 = ((lb n i).toNat : Int) := by
  unfold lb
  rw [hk, UInt8.toNat_ofNat']
  have e : (n : Int) * 8 / (k : Int) = ((n * 8 / k : Nat) : Int) := by
    rw [Int.natCast_ediv, Int.natCast_mul]; rfl
  rw [e]
  omega
theorem lb_7 (n : Nat) : ((n : Int) * 8) % 256 = ((lb n 7).toNat : Int) := by
  have := lb_int n 7 1 rfl (by decide)
  simpa using this
theorem out4_cells (x : UInt32) : [Value.int .u8 ((x.toNat : Int) / 16777216 % 256), .int .u8 ((x.toNat : Int) / 65536 % 256), .int .u8 ((x.toNat : Int) / 256 % 256), .int .u8 ((x.toNat : Int) % 256)] = (out4 x).map Nu.vb := by
  have h := x.toNat_lt
  unfold out4 Nu.vb
  simp only [List.map_cons, List.map_nil, UInt8.toNat_ofNat', List.cons.injEq, Value.int.injEq, true_and, and_true]
  omega
theorem idx_all (S : V8) : (∀ w, (Instr.index 90 (.agg #[uw S.a, uw S.b, uw S.c, uw S.d, uw S.e, uw S.f, uw S.g, uw S.h]) (.int .i64 0)).run Tryz.prog w = .ok (uw S.a) w) ∧
    (∀ w, (Instr.index 90 (.agg #[uw S.a, uw S.b, uw S.c, uw S.d, uw S.e, uw S.f, uw S.g, uw S.h]) (.int .i64 1)).run Tryz.prog w = .ok (uw S.b) w) ∧
    (∀ w, (Instr.index 90 (.agg #[uw S.a, uw S.b, uw S.c, uw S.d, uw S.e, uw S.f, uw S.g, uw S.h]) (.int .i64 2)).run Tryz.prog w = .ok (uw S.c) w) ∧
    (∀ w, (Instr.index 90 (.agg #[uw S.a, uw S.b, uw S.c, uw S.d, uw S.e, uw S.f, uw S.g, uw S.h]) (.int .i64 3)).run Tryz.prog w = .ok (uw S.d) w) ∧
    (∀ w, (Instr.index 90 (.agg #[uw S.a, uw S.b, uw S.c, uw S.d, uw S.e, uw S.f, uw S.g, uw S.h]) (.int .i64 4)).run Tryz.prog w = .ok (uw S.e) w) ∧
    (∀ w, (Instr.index 90 (.agg #[uw S.a, uw S.b, uw S.c, uw S.d, uw S.e, uw S.f, uw S.g, uw S.h]) (.int .i64 5)).run Tryz.prog w = .ok (uw S.f) w) ∧
    (∀ w, (Instr.index 90 (.agg #[uw S.a, uw S.b, uw S.c, uw S.d, uw S.e, uw S.f, uw S.g, uw S.h]) (.int .i64 6)).run Tryz.prog w = .ok (uw S.g) w) ∧
    (∀ w, (Instr.index 90 (.agg #[uw S.a, uw S.b, uw S.c, uw S.d, uw S.e, uw S.f, uw S.g, uw S.h]) (.int .i64 7)).run Tryz.prog w = .ok (uw S.h) w) :=
  ⟨fun w => by kernel_rfl, fun w => by kernel_rfl, fun w => by kernel_rfl, fun w => by kernel_rfl, fun w => by kernel_rfl, fun w => by kernel_rfl, fun w => by kernel_rfl, fun w => by kernel_rfl⟩
theorem zeros_go {n k : Nat} (h : k ≤ zeros n) : (k = zeros n ∧ (n + (1 + k)) % 64 = 56) ∨ (k < zeros n ∧ (n + (1 + k)) % 64 ≠ 56) := by
  unfold zeros at *
  omega
theorem hmk0 (w : World) : (Instr.makeSlice 22 (.int .i64 0) (.int .i64 32)).run Tryz.prog w = .ok (.slice (some ⟨w.heap.size, 0, none⟩) 0 32) (w.alloc (.cells (Array.replicate 32 (.int .u8 0)) 5)) := by kernel_rfl
theorem BOwn.made (w : World) {base : Nat} (hb : base ≤ w.heap.size) : Nu.BOwn (w.alloc (.cells (Array.replicate 32 (.int .u8 0)) 5)) base (.slice (some ⟨w.heap.size, 0, none⟩) 0 32) [] :=
  ⟨rfl, .inr ⟨_, 32, _, rfl, hb, heap_alloc_new w _, by simp, by unfold maxLen; omega, by simp, by simp⟩⟩
def outN (s : V8) : Nat → Bs
  | 0 => []
  | t + 1 => outN s t ++ out4 (wd8 s t)
theorem outN_8 (s : V8) : outN s 8 = outB s := by
  unfold outB
  simp [outN, wd8]
theorem outN_len (s : V8) : ∀ t, (outN s t).length = 4 * t
  | 0 => rfl
  | t + 1 => by rw [outN, List.length_append, outN_len s t]; simp [out4]; omega
theorem own_grown {w W W' : World} {base : Nat} {v : Value} {l : Bs} {o : Obj} (hb : Below base w W) (hs : base ≤ W.heap.size) (h : Nu.BOwn W base v l) (hg : (W.alloc o).grownBy W' v.ownBlock) : Below base w W' :=
  (hb.alloc hs o).grown hg (by simp; omega) (fun b hb => Nu.own_base' h b hb)
theorem keepB' {B : Nat} {w W w1 : World} {b : Nat} (h : Below B w W) (hb : Below b W w1) (hB : B ≤ b) : Below B w w1 :=
  h.trans ⟨hb.os, hb.tape, hb.output, hb.size, fun i hi => hb.block i (by omega)⟩
/-- append of bytes that were just laid down, onto a row of one's own. -/
theorem wpList_push {W : World} {ops : Array Oper} {rest : List Oper} {o : Oper} {a : Act} {Q : Exit → Act → World → Prop} {cs : Array Value} (hgd : o.guard = none) (s x : Operand)
    (ho : o.op = .call { callee := .builtin .append, args := #[s, x], argTypes := #[22, 22] }) (base : Nat) (v : Value) (l m : Bs) (n k : Nat) (hs : a.eval s = v) (hown : Nu.BOwn W base v l) (hn : l.length = n) (hm : m.length = k)
    (hx : a.eval x = .slice (some ⟨W.heap.size, 0, none⟩) k k) (hmax : n + k ≤ 140737488351232) (hbase : base ≤ W.heap.size) (hcs : cs.toList = m.map Nu.vb)
    (h : ∀ v' w', Nu.BOwn w' base v' (l ++ m) → (∀ w0, Below base w0 W → Below base w0 w') → wpList Tryz.prog ops Q rest (a.put o.dst v') w') : wpList Tryz.prog ops Q (o :: rest) a (W.alloc (.cells cs 5)) := by
  obtain ⟨i0, hi, hz0, hz1, hz2⟩ := info_parts Nu.info_u8
  have hc2 : ∀ j u, (m.map Nu.vb)[j]? = some u → (W.alloc (.cells cs 5)).cell? ((⟨W.heap.size, 0, none⟩ : Addr).add j) = some u := fun j u hj => by
    rw [Addr.add_mid, cell_of_row _ _ _ cs _ (0, 0) (heap_alloc_new W _), Nat.zero_add, ← Array.getElem?_toList, hcs]
    exact hj
  refine wpList_append_own _ hgd s x 22 ho base 5 i0 (.int .u8 0) 1 1 Tryz.underlying22 hi hz0 hz1 hz2 rfl (by decide) v n (l.map Nu.vb) hs ((BOwn.row' hown hn).alloc _) ⟨W.heap.size, 0, none⟩ k k (m.map Nu.vb) hx (by simp [hm]) hc2 (fun u hu => ?_) (by unfold maxLen; omega) (by omega) (by simp; omega) (fun v' w' h1 h2 h3 => ?_)
  · obtain ⟨y, _, rfl⟩ := List.mem_map.1 hu
    rfl
  · exact h v' w' (BOwn.many h1 hn hm rfl) (fun w0 hb => own_grown hb hbase hown h2)
set_option maxRecDepth 100000 in
set_option maxHeartbeats 8000000 in
theorem Sum_calls {w : World} {sb : Nat} {L : Bs} (h : StW w sb L) (hL : L.length ≤ 1152921504606846000) :
    Calls Tryz.prog 53 #[.pointer (some ⟨sb, 0, none⟩)] w fun e w' => ∃ v, e = .returned v ∧ Nu.BOwn w' w.heap.size v (shaF L) ∧ Below w.heap.size w w' := by
  obtain ⟨ov, hst, hov⟩ := h
  obtain ⟨i0, hi, hz0, hz1, hz2⟩ := info_parts Nu.info_u8
  have HI := Lib.hid hi
  have HZ0 := Lib.hid hz0
  have HZ1 := Lib.hid hz1
  have HZ2 := Lib.hid hz2
  clear hi hz0 hz1 hz2
  have HST := Lib.hid hst
  have HOV := Lib.hid hov
  have cn := hst.num
  have hsb := lt_of_heap hst.1
  obtain ⟨N, hN⟩ : ∃ N, L.length = N := ⟨_, rfl⟩
  rw [hN] at cn hL
  have HN := Lib.hid hN
  clear hst hov hN
  go_enter Tryz.func53, Tryz.ntmps53
  go_wp2_with fail
  refine (Copy_calls HST.out).mono ?_
  rintro e w1 ⟨rfl, hw1⟩
  have HC1 := Lib.hid (show StW w1 w.heap.size L from ⟨ov, by rw [hw1]; exact ⟨heap_alloc_new w _, HST.out.2⟩, HOV.out⟩)
  have hs1 : w1.heap.size = w.heap.size + 1 := by rw [hw1]; simp
  have HB1 := Lib.hid (show Below w.heap.size w w1 by rw [hw1]; exact (Below.refl _ w).alloc (Nat.le_refl _) _)
  have cn1 : w1.cell? ⟨sb, 72, none⟩ = some (.int .i64 (N : Int)) := by rw [hw1]; exact cellAlloc cn _
  have HS1 := Lib.hid hs1
  clear hw1 hs1 cn
  have HO0 := Lib.hid (BOwn.lit (w := w1) (Nat.le_refl _) 128)
  have HBA := Lib.hid (show Below w1.heap.size w1 (w1.alloc (.cells #[.int .u8 128] 5)) from (Below.refl _ w1).alloc (Nat.le_refl _) _)
  have cn2 := cellAlloc cn1 (.cells #[.int .u8 128] 5)
  go_wp2_with fail
  go_loopw [4] (fun v4 wr => ∃ k : Nat, k ≤ zeros N ∧ Hid (Nu.BOwn wr w1.heap.size v4 (128 :: List.replicate k 0)) ∧ Hid (Below w1.heap.size w1 wr)) (fun v4 _ => match v4 with | .slice _ n _ => 100 - n | _ => 0)
  case atStart => exact ⟨0, Nat.zero_le _, HO0.out, HBA.out⟩
  case round =>
    obtain ⟨k, hk, HO, HB⟩ := hrel
    have cr := keepC HB.out cn1
    have hzl := zeros_lt N
    obtain ⟨q, hq⟩ : ∃ q, 128 :: List.replicate k (0 : UInt8) = q := ⟨_, rfl⟩
    rw [hq] at HO
    obtain ⟨A, c, rfl, hc, hrd⟩ := BOwn.rd (F := fun b => w1.heap.size ≤ b) HO.out (fun b h => h)
    have HRD := Lib.hid hrd
    clear hrd
    obtain ⟨n1, hn1⟩ : ∃ n1, q.length = n1 := ⟨_, rfl⟩
    have hn2 : n1 = 1 + k := by rw [← hn1, ← hq]; simp; omega
    rw [hn1] at hc HO ⊢
    have HQ := Lib.hid hq
    have hn3 : n1 ≤ 65 := by omega
    have ew : IntKind.i64.wrap ((N : Int) + (n1 : Int)) = (N : Int) + (n1 : Int) := IntWalk.i64_in _ ⟨by omega, by omega⟩
    have er : IntKind.i64.wrap ((n1 : Int) + 1) = ((n1 + 1 : Nat) : Int) := by rw [IntWalk.i64_in _ ⟨by omega, by omega⟩]; omega
    have hzg := zeros_go hk
    rw [← hn2] at hzg
    have HN2 := Lib.hid hn2
    have HN1 := Lib.hid hn1
    clear hn2 hn1 hq
    rcases hzg with ⟨hkz, h56⟩ | ⟨hkz, h56⟩
    · have hne : (((N : Int) + (n1 : Int)) % 64 != 56) = false := by rw [bne_eq_false_iff_eq]; omega
      have HKZ := Lib.hid hkz
      have HH := Lib.hid h56
      clear hkz h56
      go_wp2_with fail
      have HOE := Lib.hid (show Nu.BOwn wr w1.heap.size (.slice A n1 c) (endB N 0) by
        have := HO.out
        rw [← HQ.out, HKZ.out] at this
        simpa [endB] using this)
      go_loopw [4, 6, 31] (fun v4 v6 v31 wr => ∃ i : Nat, i ≤ 8 ∧ v31 = .int .i64 i ∧ Hid (Nu.BOwn wr w1.heap.size v4 (endB N i)) ∧ Hid (Below w1.heap.size w1 wr)) (fun _ _ v31 _ => 8 - (intOf v31).toNat)
      case atStart => exact ⟨0, Nat.zero_le _, rfl, HOE, HB⟩
      case round =>
        clear HOE HB HO cr
        obtain ⟨i, hi, rfl, HO, HB⟩ := hrel
        have hbz := HB.out.size
        obtain ⟨q2, hq2⟩ : ∃ q2, endB N i = q2 := ⟨_, rfl⟩
        have HE := Lib.hid (endB_succ N i)
        rw [hq2] at HO HE
        obtain ⟨A2, c2, rfl, hc2, hrd2⟩ := BOwn.rd (F := fun b => w1.heap.size ≤ b) HO.out (fun b h => h)
        have HRD2 := Lib.hid hrd2
        clear hrd2
        obtain ⟨n2, hn2⟩ : ∃ n2, q2.length = n2 := ⟨_, rfl⟩
        have hn4 : n2 ≤ 80 := by rw [← hn2, ← hq2, endB_len]; omega
        rw [hn2] at HO hc2 ⊢
        by_cases h8 : i < 8
        · have HN2 := Lib.hid hn2
          have hc8 : i = 0 ∨ i = 1 ∨ i = 2 ∨ i = 3 ∨ i = 4 ∨ i = 5 ∨ i = 6 ∨ i = 7 := by omega
          clear hn2 hq2
          obtain ⟨mb, hmb⟩ : ∃ mb, [lb N i] = mb := ⟨_, rfl⟩
          have hml : mb.length = 1 := by rw [← hmb]; rfl
          have HML := Lib.hid hml
          have HMB := Lib.hid (show ∀ z : Int, z = ((lb N i).toNat : Int) → [Value.int .u8 z] = mb.map Nu.vb from fun z hz => by rw [← hmb, hz]; rfl)
          rw [hmb] at HE
          clear hmb hml
          rcases hc8 with rfl | rfl | rfl | rfl | rfl | rfl | rfl | rfl
          all_goals
            go_wp2_with (at_builtin; refine wpList_push rfl _ _ rfl w1.heap.size _ q2 mb n2 1 rfl HO.out HN2.out HML.out rfl (by omega) hbz ?hz ?_)
            case hz => exact HMB.out _ (by first | exact lb_int N 0 72057594037927936 rfl (by decide) | exact lb_int N 1 281474976710656 rfl (by decide) | exact lb_int N 2 1099511627776 rfl (by decide) | exact lb_int N 3 4294967296 rfl (by decide) | exact lb_int N 4 16777216 rfl (by decide) | exact lb_int N 5 65536 rfl (by decide) | exact lb_int N 6 256 rfl (by decide) | exact lb_7 N | (have := lb_int N 0 72057594037927936 rfl (by decide); omega))
            intro v' w2 hown1 hb1
            have HO2 := Lib.hid hown1
            have HB2 := Lib.hid (hb1 _ HB.out)
            clear hown1 hb1
            rw [← HE.out] at HO2
            go_wp2
            exact ⟨⟨_, by decide, rfl, HO2, HB2⟩, by simp [intOf]⟩
        · have hi8 : i = 8 := by omega
          have hend : endB N 8 = q2 := by rw [← hq2, hi8]
          rw [endB_8] at hend
          have HEND := Lib.hid hend
          have HN2 := Lib.hid hn2
          have hcb : w.heap.size < wr.heap.size := by have := HS1.out; omega
          have hcf : ∀ b, w1.heap.size ≤ b → b ≠ w.heap.size := fun b hb => by have := HS1.out; omega
          have HCR := Lib.hid (show StW wr w.heap.size L by
            obtain ⟨ov1, h1, h2⟩ := HC1.out
            exact ⟨ov1, ⟨(HB.out.block _ (by have := HS1.out; omega)).trans h1.1, h1.2⟩, h2⟩)
          have HRR := Lib.hid (show RdB wr (fun b => b ≠ w.heap.size) A2 q2 from HRD2.out.keep fun a v ha hv => ⟨hcf _ ha, hv⟩)
          clear hq2 hn2 hend hcf HE HO
          subst hi8
          clear h8
          go_wp2_with fail
          refine (Write_calls HCR.out HN2.out hc2 (by rw [HN.out]; omega) HRR.out).mono ?_
          rintro e w2 ⟨rfl, hst2, hT2⟩
          obtain ⟨ov2, hst3, -⟩ := hst2
          have hsum : stH (L ++ q2) = stH (L ++ padB L.length) := by rw [← HEND.out, HN.out]
          rw [hsum] at hst3
          obtain ⟨S, hS⟩ : ∃ S, stH (L ++ padB L.length) = S := ⟨_, rfl⟩
          rw [hS] at hst3
          have HFIN := Lib.hid (show outB S = shaF L by rw [← hS]; rfl)
          have hbw : Below w.heap.size w wr := keepB' HB1.out HB.out (by have := HS1.out; omega)
          have hb2 : Below w.heap.size w w2 := hbw.trans (hT2.below hbw.size (fun k hk e => by omega))
          have HBE := Lib.hid hb2
          have hbz2 := hb2.size
          have h0 := cellAlloc (show w2.cell? ⟨w.heap.size, 0, none⟩ = some (uw S.a) from (cell_of_row w2 w.heap.size 0 _ _ (0, 0) hst3.1).trans rfl) (.cells (Array.replicate 32 (.int .u8 0)) 5)
          have h1 := cellAlloc (show w2.cell? ⟨w.heap.size, 1, none⟩ = some (uw S.b) from (cell_of_row w2 w.heap.size 1 _ _ (0, 0) hst3.1).trans rfl) (.cells (Array.replicate 32 (.int .u8 0)) 5)
          have h2 := cellAlloc (show w2.cell? ⟨w.heap.size, 2, none⟩ = some (uw S.c) from (cell_of_row w2 w.heap.size 2 _ _ (0, 0) hst3.1).trans rfl) (.cells (Array.replicate 32 (.int .u8 0)) 5)
          have h3 := cellAlloc (show w2.cell? ⟨w.heap.size, 3, none⟩ = some (uw S.d) from (cell_of_row w2 w.heap.size 3 _ _ (0, 0) hst3.1).trans rfl) (.cells (Array.replicate 32 (.int .u8 0)) 5)
          have h4 := cellAlloc (show w2.cell? ⟨w.heap.size, 4, none⟩ = some (uw S.e) from (cell_of_row w2 w.heap.size 4 _ _ (0, 0) hst3.1).trans rfl) (.cells (Array.replicate 32 (.int .u8 0)) 5)
          have h5 := cellAlloc (show w2.cell? ⟨w.heap.size, 5, none⟩ = some (uw S.f) from (cell_of_row w2 w.heap.size 5 _ _ (0, 0) hst3.1).trans rfl) (.cells (Array.replicate 32 (.int .u8 0)) 5)
          have h6 := cellAlloc (show w2.cell? ⟨w.heap.size, 6, none⟩ = some (uw S.g) from (cell_of_row w2 w.heap.size 6 _ _ (0, 0) hst3.1).trans rfl) (.cells (Array.replicate 32 (.int .u8 0)) 5)
          have h7 := cellAlloc (show w2.cell? ⟨w.heap.size, 7, none⟩ = some (uw S.h) from (cell_of_row w2 w.heap.size 7 _ _ (0, 0) hst3.1).trans rfl) (.cells (Array.replicate 32 (.int .u8 0)) 5)
          clear hst3 hsum hS hT2 hb2 hbw
          have hm0 := hmk0 (w2)
          obtain ⟨w3, hw3⟩ : ∃ w3, w2.alloc (.cells (Array.replicate 32 (.int .u8 0)) 5) = w3 := ⟨_, rfl⟩
          have hmd := BOwn.made w2 hbz2
          have hb3 := HBE.out.alloc hbz2 (.cells (Array.replicate 32 (.int .u8 0)) 5)
          rw [hw3] at hm0 hmd hb3 h0 h1 h2 h3 h4 h5 h6 h7
          have HMD := Lib.hid hmd
          have HB3 := Lib.hid hb3
          clear hmd hb3 hw3 HBE HO0 HBA
          go_wp2_with fail
          go_loopw [7, 9, 52] (fun v7 v9 v52 wr => ∃ t : Nat, t ≤ 8 ∧ v52 = .int .i64 t ∧ Hid (Nu.BOwn wr w.heap.size v7 (outN S t)) ∧ Hid (Below w.heap.size w wr)) (fun _ _ v52 _ => 8 - (intOf v52).toNat)
          case atStart => exact ⟨0, Nat.zero_le _, rfl, HMD, HB3⟩
          case round =>
            clear HMD HB3
            obtain ⟨t, ht, rfl, HO3, HB3⟩ := hrel
            have hbz3 := HB3.out.size
            obtain ⟨q3, hq3⟩ : ∃ q3, outN S t = q3 := ⟨_, rfl⟩
            have HE3 := Lib.hid (show outN S (t + 1) = outN S t ++ out4 (wd8 S t) from rfl)
            rw [hq3] at HO3 HE3
            obtain ⟨n3, hn3'⟩ : ∃ n3, q3.length = n3 := ⟨_, rfl⟩
            have hn5 : n3 ≤ 32 := by rw [← hn3', ← hq3, outN_len]; omega
            obtain ⟨A3, c3, rfl, hc3, -⟩ := BOwn.rd (F := fun b => True) HO3.out (fun _ _ => trivial)
            rw [hn3'] at HO3 hc3 ⊢
            have HN3 := Lib.hid hn3'
            by_cases h8 : t < 8
            · have hc8 : t = 0 ∨ t = 1 ∨ t = 2 ∨ t = 3 ∨ t = 4 ∨ t = 5 ∨ t = 6 ∨ t = 7 := by omega
              clear hn3' hq3
              obtain ⟨mb, hmb⟩ : ∃ mb, out4 (wd8 S t) = mb := ⟨_, rfl⟩
              have HML := Lib.hid (show mb.length = 4 by rw [← hmb]; rfl)
              have HMB := Lib.hid (show mb = out4 (wd8 S t) from hmb.symm)
              rw [hmb] at HE3
              clear hmb
              obtain ⟨x0, x1, x2, x3, x4, x5, x6, x7⟩ := idx_all S
              rcases hc8 with rfl | rfl | rfl | rfl | rfl | rfl | rfl | rfl
              all_goals
                go_wp2_with (at_builtin; refine wpList_push rfl _ _ rfl w.heap.size _ q3 mb n3 4 rfl HO3.out HN3.out HML.out rfl (by omega) hbz3 ?hz ?_)
                case hz => rw [HMB.out]; exact out4_cells _
                intro v' w4 hown1 hb1
                have HO4 := Lib.hid hown1
                have HB4 := Lib.hid (hb1 _ HB3.out)
                clear hown1 hb1
                rw [← HE3.out] at HO4
                go_wp2
                exact ⟨⟨_, by decide, rfl, HO4, HB4⟩, by simp [intOf]⟩
            · have ht8 : t = 8 := by omega
              subst ht8
              rw [outN_8, HFIN.out] at hq3
              subst hq3
              go_wp2_with fail
              go_ret
              exact ⟨_, rfl, HO3.out, HB3.out⟩
    · have hne : (((N : Int) + (n1 : Int)) % 64 != 56) = true := by rw [bne_iff_ne]; omega
      have HH := Lib.hid h56
      clear h56
      have hbz := HB.out.size
      go_wp2_with (at_builtin; refine wpList_push rfl _ _ rfl w1.heap.size _ q [0] n1 1 rfl HO.out HN1.out rfl rfl (by omega) hbz rfl ?_)
      intro v' w2 hown1 hb1
      have HO2 := Lib.hid hown1
      have HB2 := Lib.hid (hb1 _ HB.out)
      clear hown1 hb1
      rw [← HQ.out, zeros_snoc] at HO2
      obtain ⟨A', c', rfl, hc', -⟩ := BOwn.rd (F := fun b => True) HO2.out (fun _ _ => trivial)
      rw [show (128 :: List.replicate (k + 1) (0 : UInt8)).length = n1 + 1 by rw [HN2.out]; simp; omega] at HO2 ⊢
      go_wp2
      exact ⟨⟨k + 1, by omega, HO2, HB2⟩, by show 100 - (n1 + 1) < 100 - n1; omega⟩
end Go.Proofs.YthgjhfcafdepcaaGreatDoor.Sh

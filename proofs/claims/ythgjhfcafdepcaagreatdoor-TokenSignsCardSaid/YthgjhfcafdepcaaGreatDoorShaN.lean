/-
  The code under a key, the document's.
-/
import Derived.Test.YthgjhfcafdepcaaGreatDoorShaM
namespace Go.Proofs.YthgjhfcafdepcaaGreatDoor.Sh
open Go.RowKit Go.Proofs.YthgjhfcafdepcaaGreatDoor.B
open Go.Proofs.YthgjhfcafdepcaaGreatDoor.M hiding Bs
open Go.Proofs.YthgjhfcafdepcaaGreatDoor.C (QRow Turn)
set_option linter.unusedVariables false
set_option linter.unusedSimpArgs false

theorem BOwn.kept {w w' : World} {base : Nat} {v : Value} {l : Bs} (h : Nu.BOwn w base v l) (hb : ∀ g, v.ownBlock = some g → w'.heap[g]? = w.heap[g]?) : Nu.BOwn w' base v l := by
  refine ⟨h.1, ?_⟩
  rcases h.2 with h | ⟨g, cap, cur, rfl, h1, h2, h3⟩
  · exact .inl h
  · exact .inr ⟨g, cap, cur, rfl, h1, by rw [hb g rfl]; exact h2, h3⟩
theorem BOwn.lt {w : World} {base : Nat} {v : Value} {l : Bs} (h : Nu.BOwn w base v l) {g : Nat} (hg : v.ownBlock = some g) : g < w.heap.size := by
  rcases h.2 with ⟨rfl, _⟩ | ⟨g', cap, cur, rfl, h1, h2, h3⟩
  · cases hg
  · cases hg
    exact lt_of_heap h2
/-- two rows lie apart. -/
def Dj (a b : Value) : Prop := ∀ g, a.ownBlock = some g → b.ownBlock = some g → False
/-- append of bytes that were just laid down, onto a row of one's own: what else it keeps. -/
theorem wpList_push2 {W : World} {ops : Array Oper} {rest : List Oper} {o : Oper} {a : Act} {Q : Exit → Act → World → Prop} {cs : Array Value} (hgd : o.guard = none) (s x : Operand)
    (ho : o.op = .call { callee := .builtin .append, args := #[s, x], argTypes := #[22, 22] }) (base : Nat) (v : Value) (l m : Bs) (n k : Nat) (hs : a.eval s = v) (hown : Nu.BOwn W base v l) (hn : l.length = n) (hm : m.length = k)
    (hx : a.eval x = .slice (some ⟨W.heap.size, 0, none⟩) k k) (hmax : n + k ≤ 140737488351232) (hbase : base ≤ W.heap.size) (hcs : cs.toList = m.map Nu.vb)
    (h : ∀ v' w', Nu.BOwn w' base v' (l ++ m) → (∀ w0, Below base w0 W → Below base w0 w') → (∀ u r, Nu.BOwn W base u r → Dj v u → Nu.BOwn w' base u r ∧ Dj v' u) → wpList Tryz.prog ops Q rest (a.put o.dst v') w') : wpList Tryz.prog ops Q (o :: rest) a (W.alloc (.cells cs 5)) := by
  obtain ⟨i0, hi, hz0, hz1, hz2⟩ := info_parts Nu.info_u8
  have hc2 : ∀ j u, (m.map Nu.vb)[j]? = some u → (W.alloc (.cells cs 5)).cell? ((⟨W.heap.size, 0, none⟩ : Addr).add j) = some u := fun j u hj => by
    rw [Addr.add_mid, cell_of_row _ _ _ cs _ (0, 0) (heap_alloc_new W _), Nat.zero_add, ← Array.getElem?_toList, hcs]
    exact hj
  refine wpList_append_own_at _ hgd s x 22 ho base 5 i0 (.int .u8 0) 1 1 Tryz.underlying22 hi hz0 hz1 hz2 rfl (by decide) v n (l.map Nu.vb) hs ((BOwn.row' hown hn).alloc _) ⟨W.heap.size, 0, none⟩ k k (m.map Nu.vb) hx (by simp [hm]) hc2 (fun u hu => ?_) (by unfold maxLen; omega) (by omega) (by simp; omega) (fun v' w' h1 h2 h3 h4 => ?_)
  · obtain ⟨y, _, rfl⟩ := List.mem_map.1 hu
    rfl
  · refine h v' w' (BOwn.many h1 hn hm rfl) (fun w0 hb => own_grown hb hbase hown h2) (fun u r hu hd => ⟨BOwn.kept hu fun g hg => ?_, fun g hg hg' => ?_⟩)
    · have hlt := BOwn.lt hu hg
      exact (h2.block g (by simp; omega) (fun e => hd g e.symm hg)).trans (alloc_old _ hlt)
    · rcases h4 with h4 | h4
      · exact hd g (h4 ▸ hg) hg'
      · have hlt := BOwn.lt hu hg'
        rw [h4] at hg
        have : (W.alloc (.cells cs 5)).heap.size = g := by simpa using hg
        simp at this
        omega
/-- append of bytes that lie anywhere, onto a row of one's own: what else it keeps. -/
theorem app_bytes2 {W : World} {base : Nat} {v : Value} {l m : Bs} {A : Option Addr} {n k c : Nat} {F : Nat → Prop} (hown : Nu.BOwn W base v l) (hn : l.length = n) (hm : m.length = k) (hR : RdB W F A m) (hmax : n + k ≤ 140737488351232) (hbase : base ≤ W.heap.size) :
    ∃ v' w', (Builtin.append_ #[22, 22] 22 #[v, .slice A k c]).run Tryz.prog W = .ok v' w' ∧ Nu.BOwn w' base v' (l ++ m) ∧ (∀ w0, Below base w0 W → Below base w0 w') ∧ (∀ u r, Nu.BOwn W base u r → Dj v u → Nu.BOwn w' base u r) := by
  obtain ⟨i0, hi, hz0, hz1, hz2⟩ := info_parts Nu.info_u8
  by_cases h0 : k = 0
  · subst h0
    obtain rfl : m = [] := List.eq_nil_of_length_eq_zero hm
    have hr : (Builtin.append_ #[22, 22] 22 #[v, .slice A 0 c]).run Tryz.prog W = .ok v W := by
      rcases hown.2 with ⟨rfl, _⟩ | ⟨g, cap, cur, rfl, h1, h2, h3, h4⟩
      · cases A <;> simp [Builtin.append_, run_underlying Tryz.underlying22, sizeOf, typeInfo, hi, Builtin.lenOf, Builtin.firstCells, storeCells, loadCells, loadCellsFrom]
      · cases A <;> simp [Builtin.append_, run_underlying Tryz.underlying22, sizeOf, typeInfo, hi, Builtin.lenOf, Builtin.firstCells, storeCells, loadCells, loadCellsFrom, h3]
    exact ⟨v, W, hr, by rw [List.append_nil]; exact hown, fun _ h => h, fun _ _ h _ => h⟩
  · obtain ⟨ad, rfl⟩ := hR.at_ (by omega)
    obtain ⟨v', w', r1, r2, r3, -⟩ := run_append_own (P := Tryz.prog) W base 22 22 5 i0 (.int .u8 0) 1 1 Tryz.underlying22 hi hz0 hz1 hz2 rfl (by decide) v n (l.map Nu.vb) (BOwn.row' hown hn) ad k c (m.map Nu.vb) (by simp [hm]) (fun j u hj => by
      rw [List.getElem?_map] at hj
      obtain ⟨x, hx, rfl⟩ := Option.map_eq_some_iff.1 hj
      obtain ⟨ad', h1, h2, h3⟩ := hR j x hx
      cases h1
      exact h3) (fun u hu => by
      obtain ⟨y, _, rfl⟩ := List.mem_map.1 hu
      rfl) (by unfold maxLen; omega) (by omega) hbase
    exact ⟨v', w', r1, BOwn.many r2 hn hm rfl, fun w0 hb => hb.grown r3 hbase (fun b hb => Nu.own_base' hown b hb), fun u r hu hd => BOwn.kept hu fun g hg => r3.block g (BOwn.lt hu hg) (fun e => hd g e.symm hg)⟩
def padT (K : Bs) (x : UInt8) (i : Nat) : Bs := (K.take i).map (· ^^^ x)
theorem padT_len (K : Bs) (x : UInt8) (i : Nat) (h : K.length = 64) (hi : i ≤ 64) : (padT K x i).length = i := by unfold padT; rw [List.length_map, List.length_take]; omega
theorem padT_succ (K : Bs) (x : UInt8) {i : Nat} (hi : i < K.length) : padT K x (i + 1) = padT K x i ++ [K.getD i 0 ^^^ x] := by
  unfold padT
  rw [List.take_add_one, List.getElem?_eq_getElem hi, List.getD_eq_getElem?_getD, List.getElem?_eq_getElem hi, List.map_append]
  rfl
theorem padT_all (k : Bs) (x : UInt8) : padT (fillK k) x 64 = padK k x := by
  unfold padT padK
  rw [List.take_of_length_le (by rw [fillK_len]; omega)]
theorem zeros_more (q : Bs) (j : Nat) : (q ++ List.replicate j (0 : UInt8)) ++ [0] = q ++ List.replicate (j + 1) 0 := by rw [List.append_assoc, List.replicate_succ']
set_option maxRecDepth 100000 in
set_option maxHeartbeats 8000000 in
theorem dmac_calls {w : World} {F F2 : Nat → Prop} {A A2 : Option Addr} {n c n2 c2 : Nat} {l m : Bs} (hn : l.length = n) (hL : n ≤ 900000) (hp : RdB w F A l) (hm : m.length = n2) (hL2 : n2 ≤ 900000) (hp2 : RdB w F2 A2 m) :
    Calls Tryz.prog 29 #[.slice A n c, .slice A2 n2 c2] w fun e w' => ∃ v, e = .returned v ∧ Nu.BOwn w' w.heap.size v (macF l m) ∧ Below w.heap.size w w' := by
  obtain ⟨v0, w0, hr, hown, hb⟩ := app_bytes (c := c) (Nu.BOwn.nil w w.heap.size) (n := 0) rfl hn hp (by omega) (Nat.le_refl _)
  obtain ⟨A0, c0, rfl, hc0, -⟩ := BOwn.rd (F := fun _ => True) hown (fun _ _ => trivial)
  rw [List.nil_append, hn] at hr hown hc0
  have HR := Lib.hid hr
  have HO := Lib.hid hown
  have HB := Lib.hid (hb w (Below.refl _ w))
  have HN := Lib.hid hn
  have HM := Lib.hid hm
  have HP2 := Lib.hid hp2
  clear hr hown hb hp hn hm hp2
  go_enter Tryz.func29, Tryz.ntmps29
  have hbz := HB.out.size
  go_upto_if 13 with (at_builtin; refine Lib.wpList_append_run _ rfl _ _ 22 22 rfl _ _ rfl rfl _ _ HR.out ?_)
  go_cut [5] (fun s5 wx => ∃ A1 n1 c1, s5 = .slice A1 n1 c1 ∧ n1 ≤ c1 ∧ n1 ≤ 64 ∧ Hid ((keyF l).length = n1) ∧ Hid (Nu.BOwn wx w.heap.size (.slice A1 n1 c1) (keyF l)) ∧ Hid (Below w.heap.size w wx))
  case first =>
    by_cases h64 : 64 < n
    · have hK : keyF l = shaF l := by unfold keyF; rw [if_pos (by rw [HN.out]; omega)]
      have HK := Lib.hid hK
      have h64' : (64 : Int) < (n : Int) := by omega
      have hrd := BOwn.rd (F := fun _ => True) HO.out (fun _ _ => trivial)
      obtain ⟨A9, c9, hv9, -, hrd⟩ := hrd
      rw [HN.out] at hv9
      cases hv9
      have HRD := Lib.hid hrd
      clear hK hrd
      go_wp2_with fail
      refine (dsum_calls HN.out (by omega) HRD.out).mono ?_
      rintro e w1 ⟨v, rfl, hown, hb1⟩
      obtain ⟨A1, c1, rfl, hc1, -⟩ := BOwn.rd (F := fun _ => True) hown (fun _ _ => trivial)
      have HO1 := Lib.hid (BOwn.base hown hbz)
      have HB1 := Lib.hid (keepB' HB.out hb1 hbz)
      clear hown hb1 HRD
      have hl32 : (shaF l).length = 32 := shaF_len l
      rw [hl32] at HO1 hc1 ⊢
      rw [← HK.out] at HO1
      have HL1 := Lib.hid (show (keyF l).length = 32 by rw [HK.out]; exact hl32)
      go_wp2_with fail
      go_meet
      exact ⟨A1, 32, c1, rfl, hc1, by omega, HL1, HO1, HB1⟩
    · have hK : keyF l = l := by unfold keyF; rw [if_neg (by rw [HN.out]; omega)]
      have h64' : ¬ (64 : Int) < (n : Int) := by omega
      have HL1 := Lib.hid (show (keyF l).length = n by rw [hK]; exact HN.out)
      rw [← hK] at HO
      clear hK
      go_wp2_with fail
      go_meet
      exact ⟨A0, n, c0, rfl, hc0, by omega, HL1, HO, HB⟩
  case rest =>
    obtain ⟨A1, n1, c1, rfl, hc1, hn1, HL1, HO1, HB1⟩ := hcut
    have HF := Lib.hid (show fillK l = keyF l ++ List.replicate (64 - n1) 0 by unfold fillK; rw [HL1.out])
    obtain ⟨q, hq⟩ : ∃ q, keyF l = q := ⟨_, rfl⟩
    rw [hq] at HF HL1 HO1
    clear hq HR HO HB hbz
    go_wp2_with fail
    go_loopw [5] (fun v5 wr => ∃ j : Nat, n1 + j ≤ 64 ∧ Hid (Nu.BOwn wr w.heap.size v5 (q ++ List.replicate j 0)) ∧ Hid (Below w.heap.size w wr)) (fun v5 _ => mS 64 v5)
    case atStart => exact ⟨0, by omega, by rw [List.replicate_zero, List.append_nil]; exact HO1, HB1⟩
    case round =>
      clear HO1 HB1
      obtain ⟨j, hj, HO, HB⟩ := hrel
      have hbz := HB.out.size
      have hlen : (q ++ List.replicate j (0 : UInt8)).length = n1 + j := by rw [List.length_append, HL1.out, List.length_replicate]
      obtain ⟨A2', c2', rfl, hc2', -⟩ := BOwn.rd (F := fun b => True) HO.out (fun _ _ => trivial)
      rw [hlen] at HO hc2' ⊢
      have HLEN := Lib.hid hlen
      clear hlen
      obtain ⟨N, hN⟩ : ∃ N, n1 + j = N := ⟨_, rfl⟩
      rw [hN] at HO hc2' HLEN ⊢
      have HNN := Lib.hid hN
      have hN64 : N ≤ 64 := by omega
      by_cases h64 : N < 64
      · have h64' : (N : Int) < 64 := by omega
        obtain ⟨q1, hq1⟩ : ∃ q1, q ++ List.replicate j (0 : UInt8) = q1 := ⟨_, rfl⟩
        have HQ := Lib.hid hq1
        rw [hq1] at HO HLEN
        clear hq1 hN hj
        go_wp2_with (at_builtin; refine wpList_push rfl _ _ rfl w.heap.size _ q1 [0] N 1 rfl HO.out HLEN.out rfl rfl (by omega) hbz rfl ?_)
        intro v' w2 hown1 hb1
        have HO2 := Lib.hid hown1
        have HB2 := Lib.hid (hb1 _ HB.out)
        clear hown1 hb1
        rw [← HQ.out, zeros_more] at HO2
        obtain ⟨A', c', rfl, hc', -⟩ := BOwn.rd (F := fun b => True) HO2.out (fun _ _ => trivial)
        rw [show (q ++ List.replicate (j + 1) (0 : UInt8)).length = N + 1 by rw [List.length_append, HL1.out, List.length_replicate, ← HNN.out]; omega] at HO2 ⊢
        go_wp2
        exact ⟨⟨j + 1, by have := HNN.out; omega, HO2, HB2⟩, by show 64 - (N + 1) < 64 - N; omega⟩
      · have hNe : N = 64 := by omega
        have h64' : ¬ (N : Int) < 64 := by omega
        have hfill : q ++ List.replicate j (0 : UInt8) = fillK l := by rw [HF.out]; congr 2; omega
        rw [hfill] at HO HLEN
        clear hfill
        obtain ⟨wz, hwz⟩ : ∃ wz, wz = wr := ⟨_, rfl⟩
        subst hwz
        subst hNe
        have HPP := Lib.hid (padT_all l)
        obtain ⟨K, hK⟩ : ∃ K, fillK l = K := ⟨_, rfl⟩
        have H54 := Lib.hid (show padT K 54 64 = padK l 54 by rw [← hK]; exact padT_all l 54)
        have H92 := Lib.hid (show padT K 92 64 = padK l 92 by rw [← hK]; exact padT_all l 92)
        rw [hK] at HO HLEN
        clear hK HPP HF HNN hN hj
        obtain ⟨A9, c9, hv9, -, hrd⟩ := BOwn.rd (F := fun b => True) HO.out (fun _ _ => trivial)
        have hv9' := hv9
        rw [HLEN.out] at hv9'
        cases hv9'
        clear hv9
        obtain ⟨ka, rfl⟩ := hrd.at_ (by rw [HLEN.out]; omega)
        have HKR := Lib.hid (fun (V : World) (hb : Below wz.heap.size wz V) (i : Nat) (hi : i < 64) => show V.cell? (ka.add i) = some (.int .u8 ((K.getD i 0).toNat : Int)) from keepC hb (hrd.get (by rw [HLEN.out]; exact hi)))
        have HI0 := Lib.hid (Nu.BOwn.nil wz wz.heap.size)
        have HBB0 := Lib.hid (Below.refl wz.heap.size wz)
        have HD0 := Lib.hid (show Dj (.slice none 0 0) (.slice none 0 0) from fun g hg => by cases hg)
        clear hrd HO
        go_wp2_with fail
        go_loopw [6, 7, 8] (fun v6 v7 v8 wx => ∃ i : Nat, i ≤ 64 ∧ v8 = .int .i64 i ∧ Hid (Nu.BOwn wx wz.heap.size v6 (padT K 54 i)) ∧ Hid (Nu.BOwn wx wz.heap.size v7 (padT K 92 i)) ∧ Hid (Dj v6 v7) ∧ Hid (Below wz.heap.size wz wx)) (fun _ _ v8 _ => 64 - (intOf v8).toNat)
        case atStart => exact ⟨0, Nat.zero_le _, rfl, HI0, HI0, HD0, HBB0⟩
        case round =>
          clear HI0 HD0 HBB0
          obtain ⟨i, hi, rfl, HI, HU, HD, HB2⟩ := hrel
          have i0 : (0 : Int) ≤ (i : Int) := by omega
          have li := padT_len K 54 i HLEN.out hi
          have lu := padT_len K 92 i HLEN.out hi
          by_cases h64 : i < 64
          · have h64' : (i : Int) < 64 := by omega
            have EI := Lib.hid (padT_succ K 54 (i := i) (by rw [HLEN.out]; exact h64))
            have EU := Lib.hid (padT_succ K 92 (i := i) (by rw [HLEN.out]; exact h64))
            have HKC := Lib.hid (fun V hb => HKR.out V hb i h64)
            obtain ⟨y, hy⟩ : ∃ y, K.getD i 0 = y := ⟨_, rfl⟩
            rw [hy] at EI EU HKC
            obtain ⟨qi, hqi⟩ : ∃ q, padT K 54 i = q := ⟨_, rfl⟩
            obtain ⟨qu, hqu⟩ : ∃ q, padT K 92 i = q := ⟨_, rfl⟩
            rw [hqi] at HI EI li
            rw [hqu] at HU EU lu
            have LI := Lib.hid li
            have LU := Lib.hid lu
            clear hy hqi hqu li lu
            have x1 : bits .xor .u8 (y.toNat : Int) 54 = ((y ^^^ 54).toNat : Int) := xor_b y 54
            have x2 : bits .xor .u8 (y.toNat : Int) 92 = ((y ^^^ 92).toNat : Int) := xor_b y 92
            obtain ⟨z1, hz1⟩ : ∃ z, y ^^^ 54 = z := ⟨_, rfl⟩
            obtain ⟨z2, hz2⟩ : ∃ z, y ^^^ 92 = z := ⟨_, rfl⟩
            rw [hz1] at x1 EI
            rw [hz2] at x2 EU
            clear hz1 hz2
            obtain ⟨m1, hm1⟩ : ∃ m, [z1] = m := ⟨_, rfl⟩
            have HML1 := Lib.hid (show m1.length = 1 by rw [← hm1]; rfl)
            have HMB1 := Lib.hid (show ∀ z : Int, z = (z1.toNat : Int) → [Value.int .u8 z] = m1.map Nu.vb from fun z hz => by rw [← hm1]; exact one_vb _ _ hz)
            rw [hm1] at EI
            clear hm1
            obtain ⟨m2, hm2⟩ : ∃ m, [z2] = m := ⟨_, rfl⟩
            have HML2 := Lib.hid (show m2.length = 1 by rw [← hm2]; rfl)
            have HMB2 := Lib.hid (show ∀ z : Int, z = (z2.toNat : Int) → [Value.int .u8 z] = m2.map Nu.vb from fun z hz => by rw [← hm2]; exact one_vb _ _ hz)
            rw [hm2] at EU
            clear hm2
            have hc := HKC.out _ HB2.out
            have hbz2 := HB2.out.size
            obtain ⟨B1, k1, hv1, -, -⟩ := BOwn.rd (F := fun b => True) HI.out (fun _ _ => trivial)
            subst hv1
            rw [LI.out] at HI HD ⊢
            go_wp2_with (at_builtin; refine wpList_push2 rfl _ _ rfl wz.heap.size _ qi m1 i 1 rfl HI.out LI.out HML1.out rfl (by omega) hbz2 ?hz ?_)
            case hz => exact HMB1.out _ (by first | rfl | exact x1 | simpa using x1)
            intro v' w3 hown1 hb1 hoth
            have HI3 := Lib.hid hown1
            have HB3 := Lib.hid (hb1 _ HB2.out)
            obtain ⟨hu3, hd3⟩ := hoth _ _ HU.out HD.out
            have HU3 := Lib.hid hu3
            have HD3 := Lib.hid (show ∀ g, v'.ownBlock = some g → Value.ownBlock _ = some g → False from hd3)
            clear hown1 hb1 hoth hc hbz2 HI HB2 hu3 hd3 HU HD x1
            have hc := HKC.out _ HB3.out
            have hbz3 := HB3.out.size
            obtain ⟨B2, k2, hv2, -, -⟩ := BOwn.rd (F := fun b => True) HU3.out (fun _ _ => trivial)
            subst hv2
            rw [LU.out] at HU3 HD3 ⊢
            go_wp2_with (at_builtin; refine wpList_push2 rfl _ _ rfl wz.heap.size _ qu m2 i 1 rfl HU3.out LU.out HML2.out rfl (by omega) hbz3 ?hz ?_)
            case hz => exact HMB2.out _ (by first | rfl | exact x2 | simpa using x2)
            intro v2' w4 hown1 hb1 hoth
            obtain ⟨hi4, hd4⟩ := hoth _ _ HI3.out (fun g h1 h2 => HD3.out g h2 h1)
            have HI4 := Lib.hid hi4
            have HU4 := Lib.hid hown1
            have HB4 := Lib.hid (hb1 _ HB3.out)
            have HD4 := Lib.hid (show Dj v' v2' from fun g h1 h2 => hd4 g h2 h1)
            clear hown1 hb1 hoth hc hbz3 HI3 HB3 hi4 hd4 HU3 HD3 x2
            rw [← EI.out] at HI4
            rw [← EU.out] at HU4
            go_wp2
            exact ⟨⟨i + 1, by omega, by go_num, HI4, HU4, HD4, HB4⟩, by simp [intOf]; omega⟩
          · have hie : i = 64 := by omega
            subst hie
            have h64' : ¬ (64 : Int) < 64 := by omega
            rw [H54.out] at HI li
            rw [H92.out] at HU lu
            have HBW := Lib.hid (keepB' HB.out HB2.out HB.out.size)
            have hbz2 := HB2.out.size
            obtain ⟨B1, k1, hv1, hk1, -⟩ := BOwn.rd (F := fun b => True) HI.out (fun _ _ => trivial)
            subst hv1
            obtain ⟨B2, k2, hv2, hk2, -⟩ := BOwn.rd (F := fun b => True) HU.out (fun _ _ => trivial)
            subst hv2
            obtain ⟨v3, w3, hr3, hown3, hb3, hk3⟩ := app_bytes2 (c := c2) (k := n2) (n := 64) HI.out li HM.out (HP2.out.below (F' := fun _ => True) HBW.out (fun _ _ _ => trivial)) (by omega) hbz2
            have hu3 := hk3 _ _ HU.out HD.out
            rw [li] at hr3 ⊢
            rw [lu] at hu3 ⊢
            have HR3 := Lib.hid hr3
            have HU3 := Lib.hid hu3
            have HB3 := Lib.hid (hb3 _ HB2.out)
            have HLI := Lib.hid (show (padK l 54 ++ m).length = 64 + n2 by rw [List.length_append, li, HM.out])
            have HLU := Lib.hid lu
            obtain ⟨B3, k3, hv3, hk3', hrd3⟩ := BOwn.rd (F := fun b => True) hown3 (fun _ _ => trivial)
            subst hv3
            rw [HLI.out] at HR3
            have HRD3 := Lib.hid hrd3
            clear hr3 hu3 hb3 hk3 hrd3 hown3 hk1 hk2 hk3' li lu
            go_wp2_with (at_builtin; refine Lib.wpList_append_run _ rfl _ _ 22 22 rfl _ _ rfl rfl _ _ HR3.out ?_)
            refine (dsum_calls HLI.out (by omega) HRD3.out).mono ?_
            rintro e w5 ⟨v5, rfl, hown5, hb5⟩
            have hbz3 := HB3.out.size
            have hB5 : Below wz.heap.size wz w5 := keepB' HB3.out hb5 hbz3
            have hu5 := Nu.own_below HU3.out hb5
            obtain ⟨B5, k5, hv5, hk5, hrd5⟩ := BOwn.rd (F := fun b => True) hown5 (fun _ _ => trivial)
            subst hv5
            have hl5 : (shaF (padK l 54 ++ m)).length = 32 := shaF_len _
            rw [hl5] at hk5 ⊢
            obtain ⟨v6, w6, hr6, hown6, hb6, -⟩ := app_bytes2 (c := k5) (k := 32) (n := 64) hu5 HLU.out hl5 hrd5 (by omega) hB5.size
            have HR6 := Lib.hid hr6
            have HB6 := Lib.hid (hb6 _ hB5)
            have hl6 : (padK l 92 ++ shaF (padK l 54 ++ m)).length = 96 := by rw [List.length_append, HLU.out, hl5]
            obtain ⟨B6, k6, hv6, hk6, hrd6⟩ := BOwn.rd (F := fun b => True) hown6 (fun _ _ => trivial)
            subst hv6
            rw [hl6] at HR6
            have HRD6 := Lib.hid hrd6
            have HL6 := Lib.hid hl6
            clear hown5 hb5 hB5 hu5 hrd5 hl5 hr6 hown6 hb6 hk6 hrd6 hl6
            go_wp2_with (at_builtin; refine Lib.wpList_append_run _ rfl _ _ 22 22 rfl _ _ rfl rfl _ _ HR6.out ?_)
            refine (dsum_calls HL6.out (by omega) HRD6.out).mono ?_
            rintro e w7 ⟨v7, rfl, hown7, hb7⟩
            have hz6 := HB6.out.size
            have hzw := HB.out.size
            have HO7 := Lib.hid (show Nu.BOwn w7 w.heap.size v7 (macF l m) from BOwn.base hown7 (by omega))
            have HB7 := Lib.hid (show Below w.heap.size w w7 from keepB' (keepB' HB.out HB6.out hzw) hb7 (by omega))
            clear hown7 hb7
            go_wp2_with fail
            go_ret
            exact ⟨_, rfl, HO7.out, HB7.out⟩
end Go.Proofs.YthgjhfcafdepcaaGreatDoor.Sh

/-
  SHA-256: the sum of bytes; the key filled up; the code under a key; two codes compared (the program's).
-/
import Derived.Test.YthgjhfcafdepcaaGreatDoorShaF
namespace Go.Proofs.YthgjhfcafdepcaaGreatDoor.Sh
open Go.RowKit Go.Proofs.YthgjhfcafdepcaaGreatDoor.B
open Go.Proofs.YthgjhfcafdepcaaGreatDoor.M hiding Bs
open Go.Proofs.YthgjhfcafdepcaaGreatDoor.C (QRow Turn)
set_option linter.unusedVariables false
set_option linter.unusedSimpArgs false

theorem RdB.lt {w : World} {F : Nat → Prop} {A : Option Addr} {q : Bs} (h : RdB w F A q) : RdB w (fun b => b < w.heap.size) A q :=
  h.keep fun a v _ hv => ⟨World.block_lt_of_cell? w a hv, hv⟩
theorem RdB.below {w w' : World} {F F' : Nat → Prop} {A : Option Addr} {q : Bs} (h : RdB w F A q) (hb : Below w.heap.size w w') (hF : ∀ b, F b → b < w.heap.size → F' b) : RdB w' F' A q :=
  h.keep fun a v ha hv => ⟨hF _ ha (World.block_lt_of_cell? w a hv), keepC hb hv⟩
theorem RdB.mono {w : World} {F F' : Nat → Prop} {A : Option Addr} {q : Bs} (h : RdB w F A q) (hF : ∀ b, F b → b < w.heap.size → F' b) : RdB w F' A q :=
  h.keep fun a v ha hv => ⟨hF _ ha (World.block_lt_of_cell? w a hv), hv⟩
theorem RdB.at_ {w : World} {F : Nat → Prop} {A : Option Addr} {q : Bs} (h : RdB w F A q) (hq : 0 < q.length) : ∃ ad, A = some ad := by
  obtain ⟨ad, h1, _⟩ := h 0 (q[0]'hq) (List.getElem?_eq_getElem _)
  exact ⟨ad, h1⟩
theorem StW.turn {w w' : World} {F : Nat → Prop} {sb : Nat} {L : Bs} (h : StW w sb L) (hT : Turn F w w') (hF : ¬ F sb) : StW w' sb L := by
  obtain ⟨ov, h1, h2⟩ := h
  exact ⟨ov, ⟨(hT.block _ (lt_of_heap h1.1) hF).trans h1.1, h1.2⟩, h2⟩
theorem StW.lt {w : World} {sb : Nat} {L : Bs} (h : StW w sb L) : sb < w.heap.size := by
  obtain ⟨ov, h1, _⟩ := h
  exact lt_of_heap h1.1
theorem StW.below {w w' : World} {sb : Nat} {L : Bs} (h : StW w sb L) (hb : Below w.heap.size w w') : StW w' sb L := h.turn (F := fun _ => False) (Turn.of_below hb) (fun h => h)
theorem BOwn.base {w : World} {base b : Nat} {v : Value} {l : Bs} (h : Nu.BOwn w base v l) (hb : b ≤ base) : Nu.BOwn w b v l := by
  refine ⟨h.1, ?_⟩
  rcases h.2 with h | ⟨g, cap, cur, h1, h2, h3⟩
  · exact .inl h
  · exact .inr ⟨g, cap, cur, h1, by omega, h3⟩
set_option maxRecDepth 100000 in
set_option maxHeartbeats 4000000 in
/-- the sum of bytes. -/
theorem shaSum_calls {w : World} {F : Nat → Prop} {A : Option Addr} {n c : Nat} {p : Bs} (hn : p.length = n) (hnc : n ≤ c) (hL : n ≤ 1152921504606846000) (hp : RdB w F A p) :
    Calls Tryz.prog 71 #[.slice A n c] w fun e w' => ∃ v, e = .returned v ∧ Nu.BOwn w' w.heap.size v (shaF p) ∧ Below w.heap.size w w' := by
  have HP := Lib.hid hp.lt
  have HN := Lib.hid hn
  clear hp hn
  go_enter Tryz.func71, Tryz.ntmps71
  go_wp2_with fail
  refine (New_calls _).mono ?_
  rintro e w1 ⟨sb, rfl, hst, hsb, hb⟩
  have HST := Lib.hid (StW.new hst)
  have HB := Lib.hid hb
  have HR := Lib.hid (HP.out.below hb (F' := fun b => b ≠ sb) (fun b h _ => by omega))
  clear hst hb
  go_wp2_with fail
  refine (Write_calls HST.out HN.out hnc (by simp; omega) HR.out).mono ?_
  rintro e w2 ⟨rfl, hst2, hT2⟩
  rw [List.nil_append] at hst2
  have HST2 := Lib.hid hst2
  have HT2 := Lib.hid hT2
  clear hst2 hT2
  go_wp2_with fail
  refine (Sum_calls HST2.out (by rw [HN.out]; exact hL)).mono ?_
  rintro e w3 ⟨v, rfl, hown, hb3⟩
  have HO := Lib.hid hown
  have HB3 := Lib.hid hb3
  clear hown hb3
  go_wp2
  go_ret
  have h2 : Below w.heap.size w w2 := HB.out.trans (HT2.out.below HB.out.size (fun k hk e => by omega))
  exact ⟨v, rfl, BOwn.base HO.out h2.size, keepB' h2 HB3.out h2.size⟩
theorem xor_b (a b : UInt8) : bits .xor .u8 (a.toNat : Int) (b.toNat : Int) = ((a ^^^ b).toNat : Int) := by
  have h8 : IntKind.u8.bits = 8 := rfl
  have ha := a.toNat_lt
  have hb := b.toNat_lt
  have hx := (a ^^^ b).toNat_lt
  rw [UInt8.toNat_xor] at hx ⊢
  simp only [bits, BitVec.ofInt_natCast, BitVec.toNat_xor, BitVec.toNat_ofNat, h8]
  rw [Nat.mod_eq_of_lt (by omega), Nat.mod_eq_of_lt (by omega), IntKind.wrap_u8]
  omega
theorem or_b (a b : UInt8) : bits .or .u8 (a.toNat : Int) (b.toNat : Int) = ((a ||| b).toNat : Int) := by
  have h8 : IntKind.u8.bits = 8 := rfl
  have ha := a.toNat_lt
  have hb := b.toNat_lt
  have hx := (a ||| b).toNat_lt
  rw [UInt8.toNat_or] at hx ⊢
  simp only [bits, BitVec.ofInt_natCast, BitVec.toNat_or, BitVec.toNat_ofNat, h8]
  rw [Nat.mod_eq_of_lt (by omega), Nat.mod_eq_of_lt (by omega), IntKind.wrap_u8]
  omega
/-- the key's row while its bytes are turned. -/
def turnK (l : Bs) (x : UInt8) (i : Nat) : Bs := (l.take i).map (· ^^^ x) ++ l.drop i
theorem turnK_len (l : Bs) (x : UInt8) (i : Nat) (h : l.length = 64) (hi : i ≤ 64) : (turnK l x i).length = 64 := by
  unfold turnK
  rw [List.length_append, List.length_map, List.length_take, List.length_drop]; omega
theorem turnK_get (l : Bs) (x : UInt8) {i : Nat} (h : l.length = 64) (hi : i < 64) : (turnK l x i).getD i 0 = l.getD i 0 := by
  unfold turnK
  rw [List.getD_eq_getElem?_getD, List.getD_eq_getElem?_getD, List.getElem?_append_right (by rw [List.length_map, List.length_take]; omega), List.length_map, List.length_take, List.getElem?_drop]
  congr 2
  omega
theorem turnK_set (l : Bs) (x : UInt8) {i : Nat} (h : l.length = 64) (hi : i < 64) : (turnK l x i).set i (l.getD i 0 ^^^ x) = turnK l x (i + 1) := by
  unfold turnK
  have hl : ((l.take i).map (· ^^^ x)).length = i := by rw [List.length_map, List.length_take]; omega
  rw [List.set_append_right _ _ (by omega), hl, Nat.sub_self, List.drop_eq_getElem_cons (by omega : i < l.length), List.set_cons_zero, List.take_add_one, List.getElem?_eq_getElem (by omega : i < l.length), Option.toList_some, List.map_append, List.append_assoc]
  simp [List.getD_eq_getElem?_getD, h, hi]
theorem turnK_all (k : Bs) (x : UInt8) : turnK (fillK k) x 64 = padK k x := by
  unfold turnK padK
  rw [List.take_of_length_le (by rw [fillK_len]; omega), List.drop_eq_nil_of_le (by rw [fillK_len]; omega), List.append_nil]
theorem byC_set (l : Bs) (i : Nat) (y : UInt8) : ((byC l).toArray).setIfInBounds i (.int .u8 (y.toNat : Int)) = (byC (l.set i y)).toArray := by
  apply Array.ext'
  simp only [Array.toList_setIfInBounds]
  unfold byC
  rw [List.map_set]
theorem byC_get (l : Bs) {i : Nat} (hi : i < l.length) : (byC l).toArray[i]? = some (.int .u8 ((l.getD i 0).toNat : Int)) := by
  unfold byC
  rw [List.getElem?_toArray, List.getElem?_map, List.getD_eq_getElem?_getD, List.getElem?_eq_getElem hi]
  rfl
theorem RdB.row {w : World} {g : Nat} {t : TypeId} {l : Bs} {F : Nat → Prop} (h : w.heap[g]? = some (.cells (byC l).toArray t (0, 0))) (hF : F g) : RdB w F (some ⟨g, 0, none⟩) l := fun i x hx => by
  refine ⟨_, rfl, hF, ?_⟩
  rw [Addr.add_mid, cell_of_row w g _ _ _ (0, 0) h, Nat.zero_add, byC_get l (List.getElem?_eq_some_iff.1 hx).1]
  rw [List.getD_eq_getElem?_getD, hx]
  rfl
def zer64 : Array Value := Array.replicate 64 (.int .u8 0)
theorem info_a64 : (Tryz.prog.info? 92).map (fun i => (i.zero, i.size)) = some (some (.agg zer64), 64) := by kernel_rfl
theorem zer64_by : zer64 = (byC (List.replicate 64 0)).toArray := by
  unfold zer64 byC
  apply Array.ext'
  simp
theorem zer64_lit : #[.int .u8 0, .int .u8 0, .int .u8 0, .int .u8 0, .int .u8 0, .int .u8 0, .int .u8 0, .int .u8 0, .int .u8 0, .int .u8 0, .int .u8 0, .int .u8 0, .int .u8 0, .int .u8 0, .int .u8 0, .int .u8 0, .int .u8 0, .int .u8 0, .int .u8 0, .int .u8 0, .int .u8 0, .int .u8 0, .int .u8 0, .int .u8 0, .int .u8 0, .int .u8 0, .int .u8 0, .int .u8 0, .int .u8 0, .int .u8 0, .int .u8 0, .int .u8 0, .int .u8 0, .int .u8 0, .int .u8 0, .int .u8 0, .int .u8 0, .int .u8 0, .int .u8 0, .int .u8 0, .int .u8 0, .int .u8 0, .int .u8 0, .int .u8 0, .int .u8 0, .int .u8 0, .int .u8 0, .int .u8 0, .int .u8 0, .int .u8 0, .int .u8 0, .int .u8 0, .int .u8 0, .int .u8 0, .int .u8 0, .int .u8 0, .int .u8 0, .int .u8 0, .int .u8 0, .int .u8 0, .int .u8 0, .int .u8 0, .int .u8 0, .int .u8 0] = zer64 := by kernel_rfl
theorem copy_key {w : World} {kb : Nat} {q : Bs} {A : Option Addr} {n1 c1 : Nat} (h : w.heap[kb]? = some (.cells zer64 92 (0, 0))) (hq : q.length = n1) (h64 : n1 ≤ 64) (hR : RdB w (fun _ => True) A q) :
    ∃ wa, (Builtin.copy_ #[22, 22] 3 #[.slice (some ⟨kb, 0, none⟩) 64 64, .slice A n1 c1]).run Tryz.prog w = .ok (.int .i64 (n1 : Int)) wa ∧ wa.heap[kb]? = some (.cells (byC (q ++ List.replicate (64 - q.length) 0)).toArray 92 (0, 0)) ∧ Turn (fun k => k = kb) w wa := by
  have hmin : Nat.min n1 64 = n1 := Nat.min_eq_left h64
  by_cases h0 : n1 = 0
  · subst h0
    obtain rfl : q = [] := List.eq_nil_of_length_eq_zero hq
    exact ⟨w, run_copy_none (P := Tryz.prog) w 22 22 3 5 _ A 64 64 0 c1 Tryz.underlying22 info_u8s rfl, by rw [h, zer64_by]; rfl, Turn.refl _ _⟩
  · obtain ⟨ad, rfl⟩ := hR.at_ (by omega)
    have hc : (byC q).length = n1 := by unfold byC; rw [List.length_map]; exact hq
    have hr := run_copy_row (P := Tryz.prog) w 22 22 3 5 kb 0 64 64 ad n1 c1 zer64 92 (byC q) Tryz.underlying22 info_u8s h (by rw [hc, hmin]) (fun j v hj => by
        unfold byC at hj
        rw [List.getElem?_map] at hj
        obtain ⟨x, hx, rfl⟩ := Option.map_eq_some_iff.1 hj
        obtain ⟨ad', h1, h2, h3⟩ := hR j x hx
        cases h1
        exact h3) (by rw [hc]; unfold zer64; simp; omega) (fun v hv => by
        unfold byC at hv
        obtain ⟨x, _, rfl⟩ := List.mem_map.1 hv
        rfl)
    rw [hc] at hr
    have hrow : zer64.toList.take 0 ++ byC q ++ zer64.toList.drop (0 + n1) = byC (q ++ List.replicate (64 - q.length) 0) := by
      rw [List.take_zero, List.nil_append, Nat.zero_add, zer64_by, List.toList_toArray]
      unfold byC
      rw [← List.map_drop, List.drop_replicate, hq, ← List.map_append]
    rw [hrow] at hr
    exact ⟨_, hr, setRow_heap _ _ _ _ _ _ h, ⟨rfl, rfl, rfl, by simp [World.setRow], fun i _ hi => setRow_other _ _ _ _ hi⟩⟩
set_option maxRecDepth 100000 in
set_option maxHeartbeats 4000000 in
theorem pad_calls {w : World} {F : Nat → Prop} {A : Option Addr} {n c : Nat} {p : Bs} (x : UInt8) (hn : p.length = n) (hnc : n ≤ c) (hL : n ≤ 1152921504606846000) (hp : RdB w F A p) :
    Calls Tryz.prog 52 #[.slice A n c, .int .u8 (x.toNat : Int)] w fun e w' => ∃ A', e = .returned (.slice A' 64 64) ∧ RdB w' (fun b => w.heap.size ≤ b) A' (padK p x) ∧ Below w.heap.size w w' := by
  have HP := Lib.hid hp.lt
  have HN := Lib.hid hn
  clear hp
  have HG := Lib.hid (heap_alloc_new w (.cells zer64 92))
  have HB0 := Lib.hid ((Below.refl w.heap.size w).alloc (Nat.le_refl _) (.cells zer64 92))
  have HP0 := Lib.hid (HP.out.below (F' := fun b => b < w.heap.size) ((Below.refl _ w).alloc (Nat.le_refl _) (.cells zer64 92)) (fun b h _ => h))
  obtain ⟨w0, hw0⟩ : ∃ w0, w.alloc (.cells zer64 92) = w0 := ⟨_, rfl⟩
  rw [hw0] at HG HB0 HP0
  go_enter Tryz.func52, Tryz.ntmps52
  have hzl := zer64_lit
  go_upto_if 9 with fail
  go_cut [0] (fun s0 wx => ∃ A1 n1 c1, s0 = .slice A1 n1 c1 ∧ n1 ≤ c1 ∧ (keyF p).length = n1 ∧ Hid (RdB wx (fun _ => True) A1 (keyF p)) ∧ Hid (wx.heap[w.heap.size]? = some (.cells zer64 92 (0, 0))) ∧ Hid (Below w.heap.size w wx))
  case first =>
    by_cases h64 : 64 < n
    · have hK : keyF p = shaF p := by unfold keyF; rw [if_pos (by omega)]
      have HK := Lib.hid hK
      have h64' : (64 : Int) < (n : Int) := by omega
      clear hn hK
      go_wp2_with fail
      refine (shaSum_calls HN.out hnc hL HP0.out).mono ?_
      rintro e w1 ⟨v, rfl, hown, hb1⟩
      obtain ⟨A1, c1, rfl, hc1, hrd⟩ := BOwn.rd (F := fun _ => True) hown (fun _ _ => trivial)
      have HRD := Lib.hid hrd
      have HB1 := Lib.hid hb1
      clear hown hrd hb1
      go_wp2_with fail
      go_meet
      have hlt : w.heap.size < w0.heap.size := lt_of_heap HG.out
      exact ⟨A1, _, c1, rfl, hc1, by rw [HK.out], by rw [HK.out]; exact HRD, Lib.hid ((HB1.out.block _ hlt).trans HG.out), Lib.hid (keepB' HB0.out HB1.out (by omega))⟩
    · have hK : keyF p = p := by unfold keyF; rw [if_neg (by omega)]
      have HK := Lib.hid hK
      have h64' : ¬ (64 : Int) < (n : Int) := by omega
      clear hK
      go_wp2_with fail
      go_meet
      exact ⟨A, n, c, rfl, hnc, by rw [HK.out]; exact hn, by rw [HK.out]; exact Lib.hid (HP0.out.mono (fun _ _ _ => trivial)), HG, HB0⟩
  case rest =>
    obtain ⟨A1, n1, c1, rfl, hc1, hn1, HR, HG1, HB1⟩ := hcut
    have hkl := keyF_len p
    obtain ⟨q, hq⟩ : ∃ q, keyF p = q := ⟨_, rfl⟩
    have HF := Lib.hid (show fillK p = q ++ List.replicate (64 - q.length) 0 by unfold fillK; rw [hq])
    rw [hq] at HR hn1 hkl
    clear hq HP HP0 HG HB0 hzl hw0
    obtain ⟨wa, hcp, hga, hta⟩ := copy_key (c1 := c1) HG1.out hn1 (by omega) HR.out
    rw [← HF.out] at hga
    obtain ⟨K, hK⟩ : ∃ K, fillK p = K := ⟨_, rfl⟩
    have hKl : K.length = 64 := by rw [← hK]; exact fillK_len p
    rw [hK] at hga HF
    have HK := Lib.hid hK
    have HGA := Lib.hid hga
    have HBA := Lib.hid (HB1.out.trans (hta.below HB1.out.size (fun k hk e => by omega)))
    clear hga hta hn1 hK HG1 HB1 HR
    go_wp2_with fail
    go_loopw [6, 15] (fun v6 v15 wr => ∃ i : Nat, i ≤ 64 ∧ v15 = .int .i64 i ∧ Hid (wr.heap[w.heap.size]? = some (.cells (byC (turnK K x i)).toArray 92 (0, 0))) ∧ Hid (Below w.heap.size w wr)) (fun _ v15 _ => 64 - (intOf v15).toNat)
    case atStart => exact ⟨0, by omega, rfl, by simpa [turnK] using HGA, HBA⟩
    case round =>
      clear HGA HBA
      obtain ⟨i, hi, rfl, HG2, HB2⟩ := hrel
      have hbz := HB2.out.size
      by_cases h64 : i < 64
      · have hi64 : (i : Int) < 64 := by omega
        have hi0 : (0 : Int) ≤ (i : Int) := by omega
        have hc := cell_of_row wr w.heap.size i _ _ (0, 0) HG2.out
        rw [byC_get _ (by rw [turnK_len K x i hKl hi]; exact h64), turnK_get K x hKl h64] at hc
        have hf := frozen_of_row wr w.heap.size i _ _ HG2.out
        have hset := heap_setCell_same wr w.heap.size i _ _ (.int .u8 ((K.getD i 0 ^^^ x).toNat : Int)) HG2.out
        rw [byC_set, turnK_set K x hKl h64] at hset
        have HSET := Lib.hid hset
        have HB3 := Lib.hid (HB2.out.trans ((Turn.setCell (fp := fun k => k = w.heap.size) wr ⟨w.heap.size, i, none⟩ (.int .u8 ((K.getD i 0 ^^^ x).toNat : Int)) rfl).below hbz (fun k hk e => by omega)))
        obtain ⟨y, hy⟩ : ∃ y, K.getD i 0 = y := ⟨_, rfl⟩
        rw [hy] at hc HSET HB3
        have hx := xor_b y x
        clear hset hy
        go_wp2
        exact ⟨⟨i + 1, by omega, by go_num, HSET, HB3⟩, by simp [intOf]; omega⟩
      · have hi64 : i = 64 := by omega
        subst hi64
        have hr := HG2.out
        rw [← HK.out, turnK_all] at hr
        have HR := Lib.hid hr
        clear hr h64
        go_wp2_with fail
        go_ret
        exact ⟨_, rfl, RdB.row HR.out (Nat.le_refl _), HB2.out⟩
theorem padK_len (p : Bs) (x : UInt8) : (padK p x).length = 64 := by unfold padK; rw [List.length_map, fillK_len]
end Go.Proofs.YthgjhfcafdepcaaGreatDoor.Sh

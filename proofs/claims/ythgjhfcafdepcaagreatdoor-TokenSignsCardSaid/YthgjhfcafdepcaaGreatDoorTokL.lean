/-
  TokenBack, TokenKeys, walked.
-/
import Derived.Test.YthgjhfcafdepcaaGreatDoorTokK
namespace Go.Proofs.YthgjhfcafdepcaaGreatDoor.Tk
open Go.RowKit Go.Proofs.YthgjhfcafdepcaaGreatDoor.B Go.Proofs.YthgjhfcafdepcaaGreatDoor.S10
open Go.Proofs.YthgjhfcafdepcaaGreatDoor.M
open Go.Proofs.YthgjhfcafdepcaaGreatDoor.C (QRow Turn)
open Go.Proofs.YthgjhfcafdepcaaGreatDoor.Sh (macF macF_len RdB)
open Go.Proofs.YthgjhfcafdepcaaGreatDoor.S01 (hexF unhexF)
set_option linter.unusedVariables false
set_option linter.unusedSimpArgs false

/-- a list's cells, one behind the other. -/
theorem cells_flat {α : Type} {w : World} {size : Nat} {R : α → List Value → Prop} {ad : Addr} : ∀ (xs : List α) (k : Nat), (∀ i x, xs[i]? = some x → ∃ cs, cs.length = size ∧ (∀ j u, cs[j]? = some u → w.cell? (ad.add ((k + i) * size + j)) = some u) ∧ R x cs) →
    ∃ css : List (List Value), (∀ c ∈ css, c.length = size) ∧ All2 R xs css ∧ ∀ j u, css.flatten[j]? = some u → w.cell? (ad.add (k * size + j)) = some u
  | [], k, _ => ⟨[], by simp, trivial, fun j u h => by simp at h⟩
  | x :: xs, k, h => by
    obtain ⟨cs, h1, h2, h3⟩ := h 0 x rfl
    obtain ⟨css, g1, g2, g3⟩ := cells_flat (size := size) (R := R) xs (k + 1) (fun i y hy => by
      obtain ⟨cs, a, b, c⟩ := h (i + 1) y (by simpa using hy)
      exact ⟨cs, a, by rwa [show k + (i + 1) = k + 1 + i by omega] at b, c⟩)
    refine ⟨cs :: css, fun c hc => ?_, ⟨h3, g2⟩, fun j u hu => ?_⟩
    · rcases List.mem_cons.1 hc with rfl | hc
      · exact h1
      · exact g1 c hc
    · rw [List.flatten_cons] at hu
      by_cases hj : j < cs.length
      · rw [List.getElem?_append_left hj] at hu
        have := h2 j u hu
        rwa [Nat.add_zero] at this
      · rw [List.getElem?_append_right (by omega)] at hu
        have := g3 _ u hu
        rw [h1] at this
        rwa [show (k + 1) * size + (j - size) = k * size + j by rw [Nat.add_mul]; omega] at this
theorem sl_flat {α : Type} {w : World} {F : Nat → Prop} {size : Nat} {R : α → List Value → Prop} {xs : List α} {ad : Addr} {n : Nat} (h : SlV w F size R xs (some ad) n) :
    ∃ css : List (List Value), (∀ c ∈ css, c.length = size) ∧ All2 R xs css ∧ ∀ j u, css.flatten[j]? = some u → w.cell? (ad.add j) = some u := by
  obtain ⟨css, h1, h2, h3⟩ := cells_flat (w := w) (size := size) (R := R) (ad := ad) xs 0 (fun i x hx => by
    obtain ⟨a, b, cs, e1, e2, e3, e4, e5, e6⟩ := h.2.2 i x hx
    cases e1
    refine ⟨cs, e4, fun j u hu => ?_, e6⟩
    have := e5 j u hu
    rw [← e2, Addr.add_add] at this
    rwa [Nat.zero_add])
  exact ⟨css, h1, h2, fun j u hu => by have := h3 j u hu; rwa [Nat.zero_mul, Nat.zero_add] at this⟩
theorem all2_mem {α : Type} {R : α → List Value → Prop} : ∀ {xs : List α} {css : List (List Value)}, All2 R xs css → ∀ c ∈ css, ∃ x, R x c
  | [], [], _, c, hc => by simp at hc
  | x :: xs, c0 :: css, h, c, hc => by
    rcases List.mem_cons.1 hc with rfl | hc
    · exact ⟨x, h.1⟩
    · exact all2_mem h.2 c hc
theorem all2_app {α : Type} {R : α → List Value → Prop} : ∀ {xs : List α} {css : List (List Value)}, All2 R xs css → ∀ {ys : List α} {dss : List (List Value)}, All2 R ys dss → All2 R (xs ++ ys) (css ++ dss)
  | [], [], _, _, _, h => h
  | x :: xs, c :: css, h, _, _, h' => ⟨h.1, all2_app h.2 h'⟩
/-- append of a list that came in onto a row of one's own. -/
theorem run_append_list {P : Program} {w : World} (t ty e : TypeId) (i : TypeInfo) (z : Value) (size bytes : Nat) (ht : P.underlying t = some (.slice e)) (hi : P.info? e = some i) (hz : i.zero = some z)
    (hsize : i.size = size) (hby : i.bytes = bytes) (hzs : z.cells.size = size) (hsz : 0 < size) {v : Value} {n : Nat} {cs : List Value} (h : QRow w e size v n cs)
    {α : Type} {R : α → List Value → Prop} {F : Nat → Prop} {l : List α} {A : Option Addr} {m c : Nat} (hs : SlV w F size R l A m) (hone : ∀ x cs, R x cs → ∀ u ∈ cs, u.oneCell' = true)
    (h63 : n + m ≤ maxLen) (hbytes : (n + m) * bytes ≤ 140737488355328) :
    ∃ v' w' css, (Builtin.append_ #[t, t] ty #[v, .slice A m c]).run P w = .ok v' w' ∧ All2 R l css ∧ (∀ d ∈ css, d.length = size) ∧ QRow w' e size v' (n + m) (cs ++ css.flatten) ∧ w.grownBy w' v.ownBlock ∧ (∀ g, v'.ownBlock = some g → v.ownBlock = some g ∨ w.heap.size ≤ g) := by
  cases A with
  | none =>
    have hm : m = 0 := by
      have h1 := hs.1
      cases l with
      | nil => simpa using h1.symm
      | cons x l =>
        obtain ⟨a, b, cs', e1, _⟩ := hs.2.2 0 x rfl
        cases e1
    subst hm
    obtain rfl : l = [] := List.eq_nil_of_length_eq_zero hs.1
    have hr : (Builtin.append_ #[t, t] ty #[v, .slice none 0 c]).run P w = .ok v w := by
      rcases h.2 with ⟨rfl, h0⟩ | ⟨g, off, cap, cur, rfl, h1, h2, h3, h4⟩
      · simp [Builtin.append_, run_underlying ht, sizeOf, typeInfo, hi, Builtin.lenOf, Builtin.firstCells, storeCells]
      · simp [Builtin.append_, run_underlying ht, sizeOf, typeInfo, hi, Builtin.lenOf, Builtin.firstCells, h2, storeCells]
    exact ⟨v, w, [], hr, trivial, by simp, by simpa using h, ⟨rfl, rfl, rfl, Nat.le_refl _, fun _ _ _ => rfl⟩, fun g hg => .inl hg⟩
  | some ad =>
    obtain ⟨css, h1, h2, h3⟩ := sl_flat hs
    have hl : css.flatten.length = m * size := by rw [flat_len h1, ← All2.length h2, hs.1]
    obtain ⟨v', w', r1, r2, r3, r4⟩ := QRow.append (P := P) t ty e i z size bytes ht hi hz hsize hby hzs hsz h ad m c css.flatten hl h3 (fun u hu => by
      obtain ⟨d, hd, hu⟩ := List.mem_flatten.1 hu
      obtain ⟨x, hx⟩ := all2_mem h2 d hd
      exact hone x d hx u hu) h63 hbytes
    exact ⟨v', w', css, r1, h2, h1, r2, r3, r4⟩
theorem key_one (w : World) (k : Ky) (cs : List Value) (h : KyR w k cs) : ∀ u ∈ cs, u.oneCell' = true := by
  obtain ⟨A, n, c, rfl, -⟩ := h
  intro u hu
  simp at hu
  rcases hu with rfl | rfl | rfl <;> rfl
theorem info_key : (Tryz.prog.info? 41).map (fun i => (i.zero, i.size, i.bytes)) = some (some (.agg #[.string ByteArray.empty, .slice none 0 0, .bool false]), 3, 48) := by kernel_rfl
/-- keys put behind a row of keys of one's own. -/
theorem append_keys {w0 w : World} {v : Value} {ks1 ks2 : List Ky} {css1 : List (List Value)} {A : Option Addr} {m c : Nat} (hb : Below w0.heap.size w0 w) (hown : ∀ g, v.ownBlock = some g → w0.heap.size ≤ g) (h1 : All2 (KyR w0) ks1 css1) (hl1 : ∀ d ∈ css1, d.length = 3)
    (hq : QRow w 41 3 v ks1.length css1.flatten) (h2 : KeysR w0 ks2 A m) (hn : ks1.length + m ≤ 1000000) :
    ∃ v' w' css, (Builtin.append_ #[34, 34] 34 #[v, .slice A m c]).run Tryz.prog w = .ok v' w' ∧ Below w0.heap.size w0 w' ∧ (∀ g, v'.ownBlock = some g → w0.heap.size ≤ g) ∧ All2 (KyR w0) (ks1 ++ ks2) css ∧ (∀ d ∈ css, d.length = 3) ∧ QRow w' 41 3 v' (ks1 ++ ks2).length css.flatten := by
  obtain ⟨i0, hi, hz0, hz1, hz2⟩ := info_parts info_key
  have hs : SlV w (fun _ => True) 3 (KyR w0) ks2 A m := SlV.keep (by decide) (fun _ _ _ => trivial) (fun a v _ hv => keepC hb hv) (fun _ _ hx => hx) h2
  obtain ⟨v', w', css, r1, r2, r3, r4, r5, r6⟩ := run_append_list (P := Tryz.prog) 34 34 41 i0 _ 3 48 Tryz.underlying34 hi hz0 hz1 hz2 rfl (by decide) hq (c := c) hs (key_one w0) (by unfold maxLen; omega) (by omega)
  refine ⟨v', w', css1 ++ css, r1, hb.grown r5 hb.size hown, fun g hg => ?_, all2_app h1 r2, fun d hd => ?_, ?_⟩
  · rcases r6 g hg with h | h
    · exact hown g h
    · have := hb.size; omega
  · rcases List.mem_append.1 hd with h | h
    · exact hl1 d h
    · exact r3 d h
  · rw [List.flatten_append, List.length_append, h2.1]
    exact r4
/-- such a row, read. -/
theorem own_keys {w0 w : World} {v : Value} {ks : List Ky} {css : List (List Value)} (hb : Below w0.heap.size w0 w) (h1 : All2 (KyR w0) ks css) (hl : ∀ d ∈ css, d.length = 3) (hq : QRow w 41 3 v ks.length css.flatten) :
    ∃ A c, v = .slice A ks.length c ∧ KeysR w ks A ks.length := by
  obtain ⟨A, c, rfl⟩ := QRow.form hq
  have ho : OwnL w 41 3 (KyR w) (.slice A ks.length c) ks := ⟨css, hl, hq, h1.mono (fun _ _ hx => hx.below hb)⟩
  exact ⟨A, c, rfl, ho.read (by decide) (fun _ _ => trivial)⟩
theorem belAlloc' {w W : World} (h : Below w.heap.size w W) (o : Obj) : Below w.heap.size w (W.alloc o) := h.alloc h.size o
theorem wpList_append_run {P : Program} {w w' : World} {ops : Array Oper} {rest : List Oper} {o : Oper} {a : Act} {Q : Exit → Act → World → Prop} (hgd : o.guard = none) (s x : Operand) (t : TypeId)
    (ho : o.op = .call { callee := .builtin .append, args := #[s, x], argTypes := #[t, t] }) (v xv v' : Value) (hs : a.eval s = v) (hx : a.eval x = xv) (hr : (Builtin.append_ #[t, t] o.type #[v, xv]).run P w = .ok v' w')
    (h : wpList P ops Q rest (a.put o.dst v') w') : wpList P ops Q (o :: rest) a w := by
  refine wpList_plain hgd fun K hK => ?_
  unfold Oper.wp
  simp [execOp, ho, resolve, invoke, builtin, hs, hx, hr, Result.andThen]
  exact hK _ _ h
theorem find_first (k : Ky) (ks : List Ky) : findK (k :: ks) k.name = some k := List.find?_cons_of_pos (p := fun k' : Ky => k'.name == k.name) (by simp)
theorem ver_back {l : Bs} {c : Cl} (hz : Szc c) (hne : textF c ≠ []) (ks : List Ky) (gone : Bool) (now : Int) :
    verF (readP (signF l c)) (⟨c.key, l, gone⟩ :: ks) now = if gone = true then (noC, 14) else if c.ex ≤ now then (noC, 16) else (c, 0) := by
  rw [(read_sign (l := l) hz.e0 hz.e1 hne).2, ver_eq]
  rw [show findK (⟨c.key, l, gone⟩ :: ks) c.key = some ⟨c.key, l, gone⟩ from find_first ⟨c.key, l, gone⟩ ks]
  simp
theorem sign_empty {l : Bs} {c : Cl} : (signF l c).isEmpty = (textF c).isEmpty := by
  unfold signF
  cases h : (textF c).isEmpty <;> simp
set_option maxRecDepth 100000 in
set_option maxHeartbeats 8000000 in
theorem back_calls (cl : Cl) (hz : Szc cl) (ks : List Ky) (A : Option Addr) (n c : Nat) {F : Nat → Prop} (l : Bs) (B : Option Addr) (m d : Nat) (gone : Bool) (now : Int) (w : World) (h : KeysR w ks A n) (hl : l.length = m) (hmd : m ≤ d) (hr : RdB w F B l) (ht : Nu.Tab w) (he : Nu.Errs w) :
    Calls Tryz.prog 6 #[clV cl, .slice A n c, .slice B m d, .bool gone, .int .i64 now] w (BRet w true) := by
  have HT := Lib.hid ht
  have HE := Lib.hid he
  have S := Lib.hid h
  have HR := Lib.hid (hr.mono (F' := fun _ => True) (fun _ _ _ => trivial))
  have HL := Lib.hid hl
  have HZ := Lib.hid hz
  have hnl := h.2.1
  have hkl := h.1
  clear ht he h hr hl hz
  obtain ⟨w0, hw0⟩ : ∃ w0, w.alloc (.cells (clC cl) 26) = w0 := ⟨_, rfl⟩
  have HB0 := Lib.hid (show Below w.heap.size w w0 by rw [← hw0]; exact (Below.refl _ w).alloc (Nat.le_refl _) _)
  have HC0 := Lib.hid (show w0.heap[w.heap.size]? = some (.cells (clC cl) 26 (0, 0)) by rw [← hw0]; exact heap_alloc_new w _)
  have hl0 : w.heap.size < w0.heap.size := by rw [← hw0]; simp
  have HCC := Lib.hid (fun V (hb : Below w0.heap.size w0 V) => five_cells ((hb.block w.heap.size hl0).trans HC0.out))
  obtain ⟨tn, k, i, key, ex⟩ := cl
  go_enter Tryz.func6, Tryz.ntmps6
  go_wp2_with fail
  refine (awake_calls w0 (Nu.Tab.below HT.out HB0.out) (Nu.Errs.below HE.out HB0.out)).mono ?_
  rintro e w1 ⟨rfl, hb1⟩
  have HB1 := Lib.hid hb1
  have HFW := Lib.hid (few_calls ks A n c w1 (keys_below S.out (below_more HB0.out hb1)))
  obtain ⟨fb, hfb⟩ : ∃ b, fewB ks = b := ⟨_, rfl⟩
  rw [hfb] at HFW
  have HFB := Lib.hid hfb
  clear hb1 hfb
  go_wp2_with fail
  refine HFW.out.mono ?_
  rintro e w2 ⟨rfl, hb2⟩
  have HB2 := Lib.hid (below_more HB1.out hb2)
  clear hb2
  cases fb with
  | false =>
    go_wp2
    go_ret
    exact ⟨rfl, below_more HB0.out HB2.out⟩
  | true =>
    by_cases hlong : 200 < m
    · have hlong' : (200 : Int) < (m : Int) := by omega
      go_wp2
      go_ret
      exact ⟨rfl, below_more HB0.out HB2.out⟩
    · have hlong' : ¬ (200 : Int) < (m : Int) := by omega
      have HBW2 := Lib.hid (below_more HB0.out HB2.out)
      have HSG := Lib.hid (Sign_calls (l := l) ⟨tn, k, i, key, ex⟩ HZ.out w2 (Nu.Tab.below HT.out HBW2.out) HL.out hmd (by omega) (HR.out.below HBW2.out (F' := fun _ => True) (fun _ _ _ => trivial)))
      obtain ⟨T, hT⟩ : ∃ T, signF l ⟨tn, k, i, key, ex⟩ = T := ⟨_, rfl⟩
      rw [hT] at HSG
      have HTT := Lib.hid hT
      obtain ⟨q0, q1, q2, q3, q4, -⟩ := HCC.out w2 HB2.out
      clear hT
      go_wp2_with fail
      refine HSG.out.mono ?_
      rintro e w3 ⟨rfl, hb3⟩
      have HB3 := Lib.hid (below_more HB2.out hb3)
      have HBW3 := Lib.hid (below_more HB0.out HB3.out)
      clear hb3 q0 q1 q2 q3 q4
      obtain ⟨q0, q1, q2, q3, q4, -⟩ := HCC.out w3 HB3.out
      cases hte : T.isEmpty with
      | true =>
        have hxe : (textF ⟨tn, k, i, key, ex⟩).isEmpty = true := by rw [← sign_empty (l := l), HTT.out]; exact hte
        have hx0 : textF ⟨tn, k, i, key, ex⟩ = [] := by simpa using hxe
        have HTX := Lib.hid (Text_calls ⟨tn, k, i, key, ex⟩ HZ.out w3 (Nu.Tab.below HT.out HBW3.out))
        rw [hx0] at HTX
        clear hxe hx0
        go_wp2_with fail
        refine HTX.out.mono ?_
        rintro e w4 ⟨rfl, hb4⟩
        have HB4 := Lib.hid (below_more HBW3.out hb4)
        clear hb4
        go_wp2
        go_ret
        exact ⟨rfl, HB4.out⟩
      | false =>
        have hne : textF ⟨tn, k, i, key, ex⟩ ≠ [] := by
          intro h
          have := sign_empty (l := l) (c := ⟨tn, k, i, key, ex⟩)
          rw [HTT.out, hte, h] at this
          cases this
        have hvb := ver_back (l := l) HZ.out hne ks gone now
        rw [HTT.out] at hvb
        have HVB := Lib.hid hvb
        have htl : T.length ≤ 1000000 := by
          have h1 := (read_sign (l := l) HZ.out.e0 HZ.out.e1 hne).1
          have h2 := textF_len ⟨tn, k, i, key, ex⟩ HZ.out.e0 HZ.out.e1
          rw [← HTT.out, h1, List.length_append, List.length_cons, S01.hexF_len, macF_len]
          omega
        obtain ⟨w4, hw4⟩ : ∃ w4, w3.alloc (.cells #[vs key, .slice B m d, .bool gone] 41) = w4 := ⟨_, rfl⟩
        have hb4 : Below w3.heap.size w3 w4 := by rw [← hw4]; exact (Below.refl _ w3).alloc (Nat.le_refl _) _
        have hq4 : QRow w4 41 3 (.slice (some ⟨w3.heap.size, 0, none⟩) 1 1) 1 [vs key, .slice B m d, .bool gone] := by
          rw [← hw4]
          exact ⟨rfl, .inr ⟨_, 0, 1, _, rfl, heap_alloc_new w3 _, Nat.le_refl _, by simp, by unfold maxLen; omega, rfl⟩⟩
        have hk3 := keys_below S.out HBW3.out
        have hkr : KyR w3 ⟨key, l, gone⟩ [vs key, .slice B m d, .bool gone] := ⟨B, m, d, rfl, HL.out, hmd, HR.out.below HBW3.out (fun _ _ _ => trivial)⟩
        have hfw := few_of HFB.out
        obtain ⟨v5, w5, css, hap, hb5, hown5, ha5, hl5, hq5⟩ := append_keys (w0 := w3) (w := w4) (v := .slice (some ⟨w3.heap.size, 0, none⟩) 1 1) (ks1 := [⟨key, l, gone⟩]) (css1 := [[vs key, .slice B m d, .bool gone]]) (c := c) hb4 (fun g hg => by cases hg; exact Nat.le_refl _) ⟨hkr, trivial⟩ (by simp) hq4 hk3 (by simp; omega)
        obtain ⟨A5, c5, rfl, hk5⟩ := own_keys hb5 ha5 hl5 hq5
        have HB5 := Lib.hid (below_more HBW3.out hb5)
        have HBC5 := Lib.hid (below_more HB3.out hb5)
        have HVF := Lib.hid (Verify_calls T htl ([⟨key, l, gone⟩] ++ ks) A5 _ c5 now w5 hk5 ⟨by simp; omega, fun j => by
          match j with
          | 0 => show l.length ≤ _; rw [HL.out]; omega
          | j + 1 => have := hfw.2 j; show (kAt ks j).bytes.length ≤ _; omega⟩ (Nu.Tab.below HT.out HB5.out) (Nu.Errs.below HE.out HB5.out))
        rw [show ([⟨key, l, gone⟩] ++ ks : List Ky) = ⟨key, l, gone⟩ :: ks from rfl] at HVF hap
        rw [HVB.out] at HVF
        obtain ⟨N, hN⟩ : ∃ N, (⟨key, l, gone⟩ :: ks : List Ky).length = N := ⟨_, rfl⟩
        rw [hN] at HVF hap
        have HAP := Lib.hid hap
        have hwf : ∀ r : Cl × Nat, ∀ r' : Cl × Nat, r = r' → VfRet w5 r = VfRet w5 r' := fun r r' h => by rw [h]
        clear hap hb5 hown5 ha5 hl5 hq5 hk5 hb4 hq4 hk3 hkr hfw hN hvb
        cases gone with
        | true =>
          have HVF2 := Lib.hid (show Calls Tryz.prog 17 #[vs T, .slice A5 N c5, .int .i64 now] w5 (fun e w' => e = .returned (.tuple #[clV noC, .int .i64 14]) ∧ Below w5.heap.size w5 w') from HVF.out)
          clear HVF hwf
          go_wp2_with (at_builtin; refine wpList_append_run rfl _ _ 34 rfl _ _ _ rfl rfl HAP.out ?_)
          refine HVF2.out.mono ?_
          rintro e w6 ⟨rfl, hb6⟩
          have HB6 := Lib.hid (below_more HB5.out hb6)
          clear hb6
          go_wp2
          go_ret
          exact ⟨rfl, belAlloc HB6.out _⟩
        | false =>
          by_cases hex : ex ≤ now
          · rw [hwf _ (noC, 16) (by rw [if_neg (by simp), if_pos hex])] at HVF
            have HVF2 := Lib.hid (show Calls Tryz.prog 17 #[vs T, .slice A5 N c5, .int .i64 now] w5 (fun e w' => e = .returned (.tuple #[clV noC, .int .i64 16]) ∧ Below w5.heap.size w5 w') from HVF.out)
            clear HVF hwf
            go_wp2_with (at_builtin; refine wpList_append_run rfl _ _ 34 rfl _ _ _ rfl rfl HAP.out ?_)
            refine HVF2.out.mono ?_
            rintro e w6 ⟨rfl, hb6⟩
            have HB6 := Lib.hid (below_more HB5.out hb6)
            have hc6 := (HCC.out _ (belAlloc' (below_more HBC5.out hb6) (.cells (clC noC) 26))).2.2.2.2.1
            clear hb6
            go_wp2
            go_ret
            exact ⟨rfl, belAlloc HB6.out _⟩
          · rw [hwf _ (⟨tn, k, i, key, ex⟩, 0) (by rw [if_neg (by simp), if_neg hex])] at HVF
            have HVF2 := Lib.hid (show Calls Tryz.prog 17 #[vs T, .slice A5 N c5, .int .i64 now] w5 (fun e w' => e = .returned (.tuple #[clV ⟨tn, k, i, key, ex⟩, .int .i64 0]) ∧ Below w5.heap.size w5 w') from HVF.out)
            clear HVF hwf
            go_wp2_with (at_builtin; refine wpList_append_run rfl _ _ 34 rfl _ _ _ rfl rfl HAP.out ?_)
            refine HVF2.out.mono ?_
            rintro e w6 ⟨rfl, hb6⟩
            have HB6 := Lib.hid (below_more HB5.out hb6)
            have hc6 := HCC.out _ (belAlloc' (below_more HBC5.out hb6) (.cells (clC ⟨tn, k, i, key, ex⟩) 26))
            obtain ⟨p0, p1, p2, p3, p4, -⟩ := hc6
            obtain ⟨m0, m1, m2, m3, m4, -⟩ := five_cells (heap_alloc_new w6 (.cells (clC ⟨tn, k, i, key, ex⟩) 26))
            clear hb6
            go_wp2
            go_ret
            exact ⟨rfl, belAlloc HB6.out _⟩
end Go.Proofs.YthgjhfcafdepcaaGreatDoor.Tk

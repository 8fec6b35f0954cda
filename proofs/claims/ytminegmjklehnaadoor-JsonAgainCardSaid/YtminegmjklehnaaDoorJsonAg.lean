/-
  JsonAgain: the walk.
-/
import Derived.Test.YtminegmjklehnaaDoorJsonBk
import Derived.Test.YtminegmjklehnaaDoorJsonPe
import Derived.Test.YtminegmjklehnaaDoorJsonPx
import Derived.Test.YtminegmjklehnaaDoorJsonNr
import Derived.Lib.SmallJoins
namespace Go.Proofs.YtminegmjklehnaaDoor.J
open Go.RowKit Go.Proofs.YtminegmjklehnaaDoor.B
open Go.Proofs.YtminegmjklehnaaDoor.M hiding Bs
open Go.Proofs.YtminegmjklehnaaDoor.C (QRow Turn)
set_option linter.unusedVariables false
set_option linter.unusedSimpArgs false

theorem append_grows {P : Program} {w : World} {ops : Array Oper} {rest : List Oper} {o : Oper} {a : Act} {Q : Exit → Act → World → Prop} (hgd : o.guard = none) (s x : Operand) (t : TypeId)
    (ho : o.op = .call { callee := .builtin .append, args := #[s, x], argTypes := #[t, t] }) (e : TypeId) (i : TypeInfo) (z : Value) (size bytes : Nat) (ht : P.underlying t = some (.slice e)) (hi : P.info? e = some i) (hz : i.zero = some z)
    (hsize : i.size = size) (hby : i.bytes = bytes) (hzs : z.cells.size = size) (hsz : 0 < size) (b : Addr) (n cap : Nat) (olds : List Value) (hs : a.eval s = .slice (some b) n cap) (hlo : olds.length = n * size) (holds : ∀ j u, olds[j]? = some u → w.cell? (b.add j) = some u)
    (ad : Addr) (m c : Nat) (news : List Value) (hx : a.eval x = .slice (some ad) m c) (hl : news.length = m * size) (hnews : ∀ j u, news[j]? = some u → w.cell? (ad.add j) = some u)
    (hg : cap < n + m) (h63 : n + m ≤ maxLen) (hbytes : (n + m) * bytes ≤ 140737488355328) (X : List Value) (hX : olds ++ news = X)
    (h : ∀ v' w', w'.ownsRow w.heap.size e size v' (n + m) X → Below w.heap.size w w' → wpList P ops Q rest (a.put o.dst v') w') : wpList P ops Q (o :: rest) a w := by
  refine wpList_plain hgd fun K hK => ?_
  obtain ⟨v', w', hr, h2, h3⟩ := run_append_arg_grows (P := P) w t o.type e i z size bytes ht hi hz hsize hby hzs hsz b n cap olds hlo holds ad m c news hl hnews hg h63 hbytes
  subst hX
  unfold Oper.wp
  simp [execOp, ho, resolve, invoke, builtin, hs, hx, hr, Result.andThen]
  exact hK _ _ (h v' w' h2 ((Below.refl _ w).grown h3 (Nat.le_refl _) (fun b hb => by cases hb)))
theorem append_own_eq {P : Program} {w : World} {ops : Array Oper} {rest : List Oper} {o : Oper} {a : Act} {Q : Exit → Act → World → Prop} (hgd : o.guard = none) (s x : Operand) (t : TypeId)
    (ho : o.op = .call { callee := .builtin .append, args := #[s, x], argTypes := #[t, t] }) (base : Nat) (e : TypeId) (i : TypeInfo) (z : Value) (size bytes : Nat) (ht : P.underlying t = some (.slice e)) (hi : P.info? e = some i) (hz : i.zero = some z)
    (hsize : i.size = size) (hby : i.bytes = bytes) (hzs : z.cells.size = size) (hsz : 0 < size) (v : Value) (n : Nat) (xs : List Value) (hs : a.eval s = v) (hown : w.ownsRow base e size v n xs)
    (ad : Addr) (m c : Nat) (news : List Value) (hx : a.eval x = .slice (some ad) m c) (hl : news.length = m * size) (hnews : ∀ j u, news[j]? = some u → w.cell? (ad.add j) = some u) (h1 : ∀ u ∈ news, u.oneCell' = true)
    (h63 : n + m ≤ maxLen) (hbytes : (n + m) * bytes ≤ 140737488355328) (hbase : base ≤ w.heap.size) (X : List Value) (hX : xs ++ news = X)
    (h : ∀ v' w', w'.ownsRow base e size v' (n + m) X → w.grownBy w' v.ownBlock → wpList P ops Q rest (a.put o.dst v') w') : wpList P ops Q (o :: rest) a w := by
  refine wpList_plain hgd fun K hK => ?_
  obtain ⟨v', w', hr, h2, h3, -, -⟩ := run_append_own_at (P := P) w base t o.type e i z size bytes ht hi hz hsize hby hzs hsz v n xs hown ad m c news hl hnews h1 h63 hbytes hbase
  subst hX
  unfold Oper.wp
  simp [execOp, ho, resolve, invoke, builtin, hs, hx, hr, Result.andThen]
  exact hK _ _ (h v' w' h2 h3)
theorem lit_cells (w : World) (L : Bs) (e : TypeId) (fr : Nat × Nat) (g : Nat) (hg : g = w.heap.size) : ∀ j u, (bc L)[j]? = some u → (w.alloc (.cells (bc L).toArray e fr)).cell? ((⟨g, 0, none⟩ : Addr).add j) = some u := by
  intro j u hu
  subst hg
  rw [Addr.add_lit, cell_of_row _ _ _ _ e fr (heap_alloc_new w _)]
  simpa using hu
theorem bs_cells {w : World} {g off : Nat} {L : Bs} (h : ∀ i (hi : i < L.length), w.cell? ⟨g, off + i, none⟩ = some (.int .u8 (L[i].toNat : Int))) : ∀ j u, (bc L)[j]? = some u → w.cell? ((⟨g, off, none⟩ : Addr).add j) = some u := by
  intro j u hu
  have hj : j < L.length := by
    have := (List.getElem?_eq_some_iff.1 hu).1
    simpa [bc] using this
  rw [Addr.add_lit, h j hj, ← hu]
  simp [bc, hj]
theorem bc_len' (L : Bs) : (bc L).length = L.length := by simp [bc]
theorem bc_one (L : Bs) : ∀ u ∈ bc L, u.oneCell' = true := by
  intro u hu
  obtain ⟨b, -, rfl⟩ := List.mem_map.1 hu
  rfl
set_option maxRecDepth 100000 in
set_option maxHeartbeats 16000000 in
theorem again_calls {L : Bs} {w : World} {A : Option Addr} {n c : Nat} (h : BsV w (.slice A n c) L) (hn : L.length = n) (hn63 : n ≤ 9223372036854775807) (hT : TabW w) (hP : TabP w) :
    Calls Tryd.prog 4 #[.slice A n c] w (BRet w true) := by
  have HAW := Lib.hid (awake_calls hT hP)
  have HT := Lib.hid hT
  have HP := Lib.hid hP
  have HV := Lib.hid h
  have HN := Lib.hid hn
  clear h hT hP hn
  by_cases hbig : 10000 < n
  · have hbig' : (10000 : Int) < (n : Int) := by omega
    go_enter Tryd.func4, Tryd.ntmps4
    go_wp2_with fail
    refine HAW.out.mono ?_
    rintro e w1 ⟨rfl, hb⟩
    have HB := Lib.hid hb
    clear hb
    go_wp2
    go_ret
    exact ⟨rfl, HB.out⟩
  have hbig' : ¬ (10000 : Int) < (n : Int) := by omega
  have HSM := Lib.hid (show L.length ≤ 10000 by have := HN.out; omega)
  obtain ⟨i0, hi, hz0, hz1, hz2⟩ := info_parts infoByte
  have HI := Lib.hid hi; clear hi
  have HZ0 := Lib.hid hz0; clear hz0
  have HZ1 := Lib.hid hz1; clear hz1
  have HZ2 := Lib.hid hz2; clear hz2
  go_enter Tryd.func4, Tryd.ntmps4
  go_wp2_with fail
  refine HAW.out.mono ?_
  rintro e w1 ⟨rfl, hb⟩
  have HB1 := Lib.hid hb
  have HD := Lib.hid (Decode_calls (HV.out.below hb) (by have := HSM.out; omega) (TabW.tabs (HT.out.below hb)))
  clear hb HAW
  go_wp2_with fail
  refine HD.out.mono ?_
  intro e w2 h2
  obtain ⟨hb, hM⟩ := h2
  have HB2 := Lib.hid (keepB HB1.out hb)
  clear hb HD
  cases hd : decodeP L with
  | error d =>
    have hdn : (d != 0) = true := bne_iff_ne.2 (decode_err L d hd)
    rw [hd] at hM
    have hM : e = .returned (.tuple #[jAgg 0 0 [] none 0 0 none 0 0, .int .i64 d]) := hM
    subst hM
    have HB3 := Lib.hid (belAlloc HB2.out (.cells (jcs 0 0 [] none 0 0 none 0 0) 25))
    clear hd
    go_wp2
    go_ret
    exact ⟨rfl, HB3.out⟩
  | ok j =>
    rw [hd] at hM
    obtain ⟨v, rfl, hv⟩ := hM
    obtain ⟨xk, xn, xt, xA, xan, xac, xB, xbn, xbc, rfl⟩ := hv.form
    obtain ⟨hmay, hgood, hsl⟩ := decode_read (by have := HSM.out; omega) hd
    have HMAY := Lib.hid hmay
    have HGOOD := Lib.hid hgood
    have HDW := Lib.hid (decode_wide hd)
    obtain ⟨g, off, hA, hcells⟩ : ∃ g off, A = some ⟨g, off, none⟩ ∧ ∀ i (hi : i < L.length), w.cell? ⟨g, off + i, none⟩ = some (.int .u8 (L[i].toNat : Int)) := by
      rcases HV.out with ⟨rfl, -⟩ | ⟨g, off, cap, hv, hc⟩
      · cases hd
      · simp only [Value.slice.injEq] at hv
        exact ⟨g, off, hv.1, hc⟩
    subst hA
    have HCE := Lib.hid hcells
    have hL1 : 1 ≤ n := by
      have h0 := HN.out
      cases L with
      | nil => cases hd
      | cons x L => simp at h0; omega
    have hj3 := heap_alloc_new w2 (.cells (jcs xk xn xt xA xan xac xB xbn xbc) 25)
    have hb3 : Below w2.heap.size w2 (w2.alloc (.cells (jcs xk xn xt xA xan xac xB xbn xbc) 25)) := (Below.refl _ w2).alloc (Nat.le_refl _) _
    have HB3 := Lib.hid (keepB HB2.out hb3)
    have HJ3 := Lib.hid (hv.below hb3)
    have HX3 := Lib.hid hj3
    have hE : encodeP j = showJ j := by unfold encodeP; rw [hmay]; rfl
    have HE := Lib.hid (Encode_calls HJ3.out hgood.2 (fun _ => hgood.1) (HT.out.below HB3.out) (HP.out.below HB3.out))
    rw [hE] at HE
    have HSL := Lib.hid hsl
    obtain ⟨i0', i1', i2', i3', i4', -⟩ := five_of hj3
    clear hd hv hmay hgood hcells hj3 hb3 hE hsl
    go_wp2_with fail
    generalize (w2.alloc (.cells (jcs xk xn xt xA xan xac xB xbn xbc) 25)) = V3 at *
    refine HE.out.mono ?_
    rintro e w4 ⟨hb, v, rfl, hv⟩
    have HB4 := Lib.hid (keepB HB3.out hb)
    have hj4 := (hb.block _ (lt_of_heap HX3.out)).trans HX3.out
    have HX4 := Lib.hid hj4
    have HJ4 := Lib.hid (HJ3.out.below hb)
    have HD4 := Lib.hid (Decode_calls hv (by have := HSL.out; omega) (TabW.tabs (HT.out.below HB4.out)))
    rw [decode_show HMAY.out] at HD4
    clear hb hv hj4 HE HX3 HJ3 i0' i1' i2' i3' i4'
    go_wp2_with fail
    refine HD4.out.mono ?_
    rintro e w5 ⟨hb, v, rfl, hv⟩
    obtain ⟨yk, yn, yt, yA, yan, yac, yB, ybn, ybc, rfl⟩ := hv.form
    have hb5 : Below w5.heap.size w5 (w5.alloc (.cells (jcs yk yn yt yA yan yac yB ybn ybc) 25)) := (Below.refl _ w5).alloc (Nat.le_refl _) _
    have HB5 := Lib.hid (keepB (keepB HB4.out hb) hb5)
    have HJ5 := Lib.hid ((HJ4.out.below hb).below hb5)
    have HX5 := Lib.hid ((hb5.block _ (Nat.lt_of_lt_of_le (lt_of_heap HX4.out) hb.size)).trans ((hb.block _ (lt_of_heap HX4.out)).trans HX4.out))
    have HY5 := Lib.hid (heap_alloc_new w5 (.cells (jcs yk yn yt yA yan yac yB ybn ybc) 25))
    have HK5 := Lib.hid (hv.below hb5)
    have hyx : w2.heap.size < w5.heap.size := Nat.lt_of_lt_of_le (lt_of_heap HX4.out) hb.size
    clear hb hv hb5 HD4 HX4 HJ4
    have kc := Go.Joins.run_convert_bytes_const_at (P := Tryd.prog) (w5.alloc (.cells (jcs yk yn yt yA yan yac yB ybn ybc) 25)) 28 5 #[.int .u8 32, .int .u8 13, .int .u8 10, .int .u8 9] 4 4 (w5.heap.size + 1) (by simp) Tryd.underlying28 Tryd.underlying5
    have hb6' : Below (w5.alloc (.cells (jcs yk yn yt yA yan yac yB ybn ybc) 25)).heap.size (w5.alloc (.cells (jcs yk yn yt yA yan yac yB ybn ybc) 25)) ((w5.alloc (.cells (jcs yk yn yt yA yan yac yB ybn ybc) 25)).alloc (.cells (bc [32, 13, 10, 9]).toArray 5 (4, 5))) := (Below.refl _ _).alloc (Nat.le_refl _) _
    have HV6 := Lib.hid hb6'
    have HLC := Lib.hid (lit_cells (w5.alloc (.cells (jcs yk yn yt yA yan yac yB ybn ybc) 25)) [32, 13, 10, 9] 5 (4, 5) (w5.heap.size + 1) (by simp))
    have HSC := Lib.hid (bs_cells (w := (w5.alloc (.cells (jcs yk yn yt yA yan yac yB ybn ybc) 25)).alloc (.cells (bc [32, 13, 10, 9]).toArray 5 (4, 5))) (fun i hi => keepC (keepB HB5.out hb6') (HCE.out i hi)))
    obtain ⟨X, hX⟩ : ∃ X, bc [32, 13, 10, 9] ++ bc L = X := ⟨_, rfl⟩
    have HXX := Lib.hid hX
    have HLN := Lib.hid (show (bc L).length = n * 1 by rw [bc_len', HN.out, Nat.mul_one])
    clear hb6' hX
    go_wp2_with (at_builtin; go_loud (refine append_grows rfl _ _ 28 rfl 5 i0 (.int .u8 0) 1 1 Tryd.underlying28 HI.out HZ0.out HZ1.out HZ2.out rfl (by decide) ⟨w5.heap.size + 1, 0, none⟩ 4 4 (bc [32, 13, 10, 9]) rfl rfl HLC.out ⟨g, off, none⟩ n c (bc L) rfl HLN.out HSC.out (by omega) (by unfold maxLen; omega) (by omega) X HXX.out ?_))
    intro v6 w6 ho6 hb
    have HV7 := Lib.hid (keepB HV6.out (show Below _ _ w6 by rw [asz, asz]; exact hb))
    have hs6 : w5.heap.size + 1 + 1 ≤ w6.heap.size := by have := hb.size; rw [asz, asz] at this; exact this
    have HO7 := Lib.hid (row_below ho6 ((Below.refl _ w6).alloc (Nat.le_refl _) (.cells (bc [32, 10]).toArray 5)))
    have HLC2 := Lib.hid (lit_cells w6 [32, 10] 5 (0, 0) w6.heap.size rfl)
    have HV8 := Lib.hid (belAlloc HV7.out (.cells (bc [32, 10]).toArray 5))
    have HS8 := Lib.hid (show w5.heap.size + 1 + 1 ≤ (w6.alloc (.cells (bc [32, 10]).toArray 5)).heap.size from Nat.le_trans hs6 (le_alloc _ _))
    have HRO := Lib.hid (row_own HO7.out)
    obtain ⟨X2, hX2⟩ : ∃ X2, X ++ bc [32, 10] = X2 := ⟨_, rfl⟩
    have HX2 := Lib.hid hX2
    clear hX2 ho6 hb kc
    go_wp2_with (at_builtin; go_loud (refine append_own_eq rfl _ _ 28 rfl (w5.heap.size + 1 + 1) 5 i0 (.int .u8 0) 1 1 Tryd.underlying28 HI.out HZ0.out HZ1.out HZ2.out rfl (by decide) v6 (4 + n) X rfl HO7.out ⟨w6.heap.size, 0, none⟩ 2 2 (bc [32, 10]) rfl rfl HLC2.out (bc_one _) (by unfold maxLen; omega) (by omega) HS8.out X2 HX2.out ?_))
    intro v8 w8 ho8 hg8
    have hv8 : Below (w5.alloc (.cells (jcs yk yn yt yA yan yac yB ybn ybc) 25)).heap.size (w5.alloc (.cells (jcs yk yn yt yA yan yac yB ybn ybc) 25)) w8 := HV8.out.grown hg8 HV8.out.size (fun g hg => by
      have := HRO.out g hg
      rw [asz]; omega)
    have hbv : BsV w8 v8 ([32, 13, 10, 9] ++ L ++ tailS) := by
      refine row_bytes (B := w5.heap.size + 1 + 1) ?_
      have e1 : ([32, 13, 10, 9] ++ L ++ tailS).length = 4 + n + 2 := by
        rw [List.length_append, List.length_append, HN.out]; rfl
      have e2 : bc ([32, 13, 10, 9] ++ L ++ tailS) = X2 := by
        rw [← HX2.out, ← HXX.out]; simp [bc]
      rw [e1, e2]
      exact ho8
    have HB8 := Lib.hid (keepB HB5.out hv8)
    have HJ8 := Lib.hid (HJ5.out.below hv8)
    have HX8 := Lib.hid ((hv8.block _ (lt_of_heap HX5.out)).trans HX5.out)
    have HY8 := Lib.hid ((hv8.block _ (lt_of_heap HY5.out)).trans HY5.out)
    have HK8 := Lib.hid (HK5.out.below hv8)
    have hll : ([32, 13, 10, 9] ++ L ++ tailS).length ≤ 1000000000 := by rw [List.length_append, List.length_append]; have := HSM.out; simp; omega
    have hdw := HDW.out
    obtain ⟨L2, hL2⟩ : ∃ L2, [32, 13, 10, 9] ++ L ++ tailS = L2 := ⟨_, rfl⟩
    rw [hL2] at hbv hll hdw
    have HD8 := Lib.hid (Decode_calls hbv hll (TabW.tabs (HT.out.below HB8.out)))
    rw [hdw] at HD8
    obtain ⟨vA, vc, hvf⟩ := hbv.form
    subst hvf
    clear ho8 hg8 hv8 hbv hll hdw hL2 HV6 HV7 HV8 HO7 HLC HLC2 HSC HRO HS8 HX2 HXX
    go_wp2_with fail
    refine HD8.out.mono ?_
    rintro e w9 ⟨hb, v, rfl, hv⟩
    obtain ⟨zk, zn, zt, zA, zan, zac, zB, zbn, zbc, rfl⟩ := hv.form
    have hb9 : Below w9.heap.size w9 (w9.alloc (.cells (jcs zk zn zt zA zan zac zB zbn zbc) 25)) := (Below.refl _ w9).alloc (Nat.le_refl _) _
    have hb9' := keepB hb hb9
    have HB9 := Lib.hid (keepB HB8.out hb9')
    have HJ9 := Lib.hid (HJ8.out.below hb9')
    have HX9 := Lib.hid ((hb9'.block _ (lt_of_heap HX8.out)).trans HX8.out)
    have HY9 := Lib.hid ((hb9'.block _ (lt_of_heap HY8.out)).trans HY8.out)
    have HK9 := Lib.hid (HK8.out.below hb9')
    have HZ9 := Lib.hid (heap_alloc_new w9 (.cells (jcs zk zn zt zA zan zac zB zbn zbc) 25))
    have HQ9 := Lib.hid (hv.below hb9)
    obtain ⟨q0, q1, q2, q3, q4, -⟩ := five_of HX9.out
    have HM := Lib.hid (May_calls HJ9.out HGOOD.out.2 (HT.out.below HB9.out))
    rw [HMAY.out] at HM
    have hs9 : w5.heap.size < w9.heap.size := by
      have := lt_of_heap HY8.out
      exact Nat.lt_of_lt_of_le this hb.size
    clear hb hv hb9 hb9' HD8 HJ8 HX8 HY8 HK8
    go_wp2_with fail
    generalize (w9.alloc (.cells (jcs zk zn zt zA zan zac zB zbn zbc) 25)) = V9 at *
    refine HM.out.mono ?_
    rintro e w10 ⟨rfl, hb⟩
    have HB10 := Lib.hid (keepB HB9.out hb)
    have HX10 := Lib.hid ((hb.block _ (lt_of_heap HX9.out)).trans HX9.out)
    have HY10 := Lib.hid ((hb.block _ (lt_of_heap HY9.out)).trans HY9.out)
    have HZ10 := Lib.hid ((hb.block _ (lt_of_heap HZ9.out)).trans HZ9.out)
    have HS := Lib.hid (Same_calls (normJ j) j _ _ _ _ _ _ _ _ _ _ _ _ _ _ _ _ _ _ _ _ _ (HK9.out.below hb) (HJ9.out.below hb))
    have HJ10 := Lib.hid (HJ9.out.below hb)
    have HQ10 := Lib.hid (HQ9.out.below hb)
    rw [same_norm j 12 HMAY.out] at HS
    clear hb HM q0 q1 q2 q3 q4 HX9 HY9 HZ9
    obtain ⟨q0, q1, q2, q3, q4, -⟩ := five_of HX10.out
    obtain ⟨p0, p1, p2, p3, p4, -⟩ := five_of HY10.out
    go_wp2_with fail
    refine HS.out.mono ?_
    rintro e w11 ⟨rfl, hb⟩
    have HB11 := Lib.hid (keepB HB10.out hb)
    have HX11 := Lib.hid ((hb.block _ (lt_of_heap HX10.out)).trans HX10.out)
    have HZ11 := Lib.hid ((hb.block _ (lt_of_heap HZ10.out)).trans HZ10.out)
    have HS := Lib.hid (Same_calls j j _ _ _ _ _ _ _ _ _ _ _ _ _ _ _ _ _ _ _ _ _ (HQ10.out.below hb) (HJ10.out.below hb))
    rw [same_refl j] at HS
    clear hb q0 q1 q2 q3 q4 p0 p1 p2 p3 p4 HX10 HY10 HZ10
    obtain ⟨q0, q1, q2, q3, q4, -⟩ := five_of HX11.out
    obtain ⟨p0, p1, p2, p3, p4, -⟩ := five_of HZ11.out
    go_wp2_with fail
    refine HS.out.mono ?_
    rintro e w12 ⟨rfl, hb⟩
    have HB12 := Lib.hid (keepB HB11.out hb)
    clear hb
    go_wp2
    go_ret
    exact ⟨by simp [Array.getD], HB12.out⟩
end Go.Proofs.YtminegmjklehnaaDoor.J

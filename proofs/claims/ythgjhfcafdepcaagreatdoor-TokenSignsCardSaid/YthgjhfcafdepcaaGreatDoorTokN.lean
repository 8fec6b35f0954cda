/-
  Tokens: the document's Text and parts.
-/
import Derived.Test.YthgjhfcafdepcaaGreatDoorTokM
import Derived.StillTailTactics
namespace Go.Proofs.YthgjhfcafdepcaaGreatDoor.Tk
open Go.RowKit Go.Proofs.YthgjhfcafdepcaaGreatDoor.B Go.Proofs.YthgjhfcafdepcaaGreatDoor.S10
open Go.Proofs.YthgjhfcafdepcaaGreatDoor.M
open Go.Proofs.YthgjhfcafdepcaaGreatDoor.C (QRow Turn)
open Go.Proofs.YthgjhfcafdepcaaGreatDoor.Sh (macF macF_len RdB)
open Go.Proofs.YthgjhfcafdepcaaGreatDoor.S01 (hexF unhexF)
set_option linter.unusedVariables false
set_option linter.unusedSimpArgs false

theorem ba_join (t W k e : Bs) : ba ([118, 49, 47] : Bs) ++ ba t ++ ba ([47] : Bs) ++ ba W ++ ba ([47] : Bs) ++ ba k ++ ba ([47] : Bs) ++ ba e = ba (joi 47 [[118, 49], t, W, k, e]) := by
  apply ba_ext
  simp [L, joi]
set_option maxRecDepth 100000 in
set_option maxHeartbeats 4000000 in
theorem refText_calls (c : Cl) (hz : Szc c) (w : World) : Calls Tryz.prog 11 #[clV c] w (ShowRet w (textF c)) := by
  have HZ := Lib.hid hz
  have h1 := sz c.tn
  have h2 := sz c.k
  have h3 := sz c.i
  have h4 := sz c.key
  have HNT := fun w => Nm.refName_calls (ba c.tn) w (by rw [h1]; exact HZ.out.tn)
  have HNK := fun w => Nm.refName_calls (ba c.key) w (by rw [h4]; exact HZ.out.key)
  have HW := fun w => Nm.refShowObject_calls (ba c.k) (ba c.i) w (by rw [h2]; exact HZ.out.k) (by rw [h3]; exact HZ.out.i)
  rw [ba_who] at HW
  clear hz
  obtain ⟨W, hW⟩ : ∃ W, whoF c = W := ⟨_, rfl⟩
  rw [hW] at HW
  have HWW := Lib.hid hW
  clear hW
  obtain ⟨bt, hbt⟩ : ∃ b, nameB (ba c.tn) = b := ⟨_, rfl⟩
  obtain ⟨bk, hbk⟩ : ∃ b, nameB (ba c.key) = b := ⟨_, rfl⟩
  rw [hbt] at HNT
  rw [hbk] at HNK
  have HBT := Lib.hid hbt
  have HBK := Lib.hid hbk
  have HN1 := Lib.hid HNT
  have HN2 := Lib.hid HNK
  have HW' := Lib.hid HW
  clear hbt hbk HNT HNK HW
  obtain ⟨w0, hw0⟩ : ∃ w0, w.alloc (.cells (clC c) 26) = w0 := ⟨_, rfl⟩
  have HB0 := Lib.hid (show Below w.heap.size w w0 by rw [← hw0]; exact (Below.refl _ w).alloc (Nat.le_refl _) _)
  have HC0 := Lib.hid (show w0.heap[w.heap.size]? = some (.cells (clC c) 26 (0, 0)) by rw [← hw0]; exact heap_alloc_new w _)
  have hl0 : w.heap.size < w0.heap.size := by rw [← hw0]; simp
  have HCC := Lib.hid (fun V (hb : Below w0.heap.size w0 V) => five_cells ((hb.block w.heap.size hl0).trans HC0.out))
  obtain ⟨tn, k, i, key, ex⟩ := c
  obtain ⟨q0, q1, q2, q3, q4, -⟩ := HCC.out w0 (Below.refl _ _)
  go_enter Tryz.func11, Tryz.ntmps11
  go_wp2_with fail
  refine (HN1.out _).mono ?_
  rintro e w1 ⟨rfl, hw1⟩
  rw [← hw1]
  clear hw1
  go_wp2_with fail
  refine (HN2.out _).mono ?_
  rintro e w1 ⟨rfl, hw1⟩
  rw [← hw1]
  clear hw1
  go_wp2_with fail
  refine (HW'.out _).mono ?_
  rintro e w1 ⟨rfl, hb1⟩
  have HB1 := Lib.hid hb1
  have HBW := Lib.hid (below_more HB0.out hb1)
  clear hb1 q0 q1 q2 q3 q4
  obtain ⟨q0, q1, q2, q3, q4, -⟩ := HCC.out w1 HB1.out
  cases bt with
  | false =>
    have HE := Lib.hid (show okC ⟨tn, k, i, key, ex⟩ = false by unfold okC; rw [show nameB (ba tn) = false from HBT.out]; simp)
    go_wp2
    go_ret
    exact ⟨by rw [textF_no HE.out]; rfl, HBW.out⟩
  | true =>
    cases bk with
    | false =>
      have HE := Lib.hid (show okC ⟨tn, k, i, key, ex⟩ = false by unfold okC; rw [show nameB (ba key) = false from HBK.out]; simp)
      go_wp2
      go_ret
      exact ⟨by rw [textF_no HE.out]; rfl, HBW.out⟩
    | true =>
      cases hwe : W.isEmpty with
      | true =>
        have HE := Lib.hid (show okC ⟨tn, k, i, key, ex⟩ = false by unfold okC; rw [HWW.out, hwe]; rfl)
        go_wp2
        go_ret
        exact ⟨by rw [textF_no HE.out]; rfl, HBW.out⟩
      | false =>
        by_cases hex : 0 ≤ ex ∧ ex ≤ 1000000000000000
        · have hx1 : ¬ ex < 0 := by omega
          have hx2 : ¬ 1000000000000000 < ex := by omega
          have HX := Lib.hid hex
          clear hex
          have HSH := Lib.hid (fun (V : World) => Nu.refShow_calls ex (by omega) (by omega) V)
          have HBd := Lib.hid (show Below w1.heap.size w1 w1.drew from ⟨rfl, rfl, rfl, Nat.le_refl _, fun _ _ => rfl⟩)
          have HK := Lib.hid (fun (V : World) (hb : Below w1.heap.size w1 V) => show V.cell? ⟨w.heap.size, 0, none⟩ = some (vs tn) ∧ V.cell? ⟨w.heap.size, 3, none⟩ = some (vs key) ∧ V.cell? ⟨w.heap.size, 4, none⟩ = some (.int .i64 ex) from ⟨keepC hb q0, keepC hb q3, keepC hb q4⟩)
          have HLW := Lib.hid (show W.length ≤ 41 by rw [← HWW.out]; exact whoF_len _)
          have HTX := Lib.hid (show textF ⟨tn, k, i, key, ex⟩ = joi 47 [[118, 49], tn, W, key, Lib.itoa ex] by
            unfold textF
            rw [if_pos]
            · show joi 47 [[118, 49], tn, whoF _, key, decF ex] = _
              rw [HWW.out]; rfl
            · unfold okC
              rw [HWW.out, hwe, show nameB (ba tn) = true from HBT.out, show nameB (ba key) = true from HBK.out, decide_eq_true HX.out.1, decide_eq_true HX.out.2]
              rfl)
          have ln1 := name_len (q := tn) HBT.out
          have ln2 := name_len (q := key) HBK.out
          have ln3 := Lib.itoa_length_le ex (by omega) (by omega)
          have ln4 := HLW.out
          obtain ⟨D, hD⟩ : ∃ D, Lib.itoa ex = D := ⟨_, rfl⟩
          rw [hD] at HSH HTX ln3
          clear q0 q1 q2 q3 q4 h1 h2 h3 h4 hD
          have n1 : ¬ 9223372036854775807 < 3 + tn.length := by omega
          have n2 : ¬ 9223372036854775807 < 3 + tn.length + 1 := by omega
          have n3 : ¬ 9223372036854775807 < 3 + tn.length + 1 + W.length := by omega
          have n4 : ¬ 9223372036854775807 < 3 + tn.length + 1 + W.length + 1 := by omega
          have n5 : ¬ 9223372036854775807 < 3 + tn.length + 1 + W.length + 1 + key.length := by omega
          have n6 : ¬ 9223372036854775807 < 3 + tn.length + 1 + W.length + 1 + key.length + 1 := by omega
          have n7 : ¬ 9223372036854775807 < 3 + tn.length + 1 + W.length + 1 + key.length + 1 + D.length := by omega
          obtain ⟨t0, t2, t3⟩ := HK.out _ (Below.refl _ _)
          go_wp2_with fail
          go_region_held3 (fun V => V.cell? ⟨w.heap.size, 0, none⟩ = some (vs tn) ∧ V.cell? ⟨w.heap.size, 3, none⟩ = some (vs key) ∧ V.cell? ⟨w.heap.size, 4, none⟩ = some (.int .i64 ex)) (go_keep)
            (first
            | ((with_reducible refine (HSH.out _).mono ?_); rintro e V ⟨rfl, hb⟩
               have HBV := Lib.hid (below_more HBd.out hb)
               obtain ⟨t0, t2, t3⟩ := HK.out V HBV.out
               clear hb))
          all_goals
            go_wp2
            go_ret
            exact ⟨by rw [HTX.out]; exact congrArg Ending.returned (congrArg Value.string (ba_join tn W key D)), below_more HBW.out HBV.out⟩
        · have HE := Lib.hid (show okC ⟨tn, k, i, key, ex⟩ = false by
            unfold okC
            by_cases h : 0 ≤ ex
            · rw [decide_eq_false (show ¬ ex ≤ 1000000000000000 from fun h2 => hex ⟨h, h2⟩)]; simp
            · rw [decide_eq_false (show ¬ (0 ≤ ex) from h)]; simp)
          by_cases hx1 : ex < 0
          · go_wp2
            go_ret
            exact ⟨by rw [textF_no HE.out]; rfl, HBW.out⟩
          · have hx2 : 1000000000000000 < ex := by omega
            go_wp2
            go_ret
            exact ⟨by rw [textF_no HE.out]; rfl, HBW.out⟩
/-! ### parts -/
theorem spl_hit (c : UInt8) (l : Bs) : spl c (l ++ [c]) = spl c l ++ [[]] := spl_snoc c l []
theorem spl_ext {c x : UInt8} (hx : x ≠ c) : ∀ l : Bs, ∃ p q, spl c l = p ++ [q] ∧ spl c (l ++ [x]) = p ++ [q ++ [x]]
  | [] => ⟨[], [], rfl, by show spl c [x] = [[x]]; rw [spl_none c [x] (by simpa using fun e : c = x => hx e.symm)]⟩
  | y :: l => by
    obtain ⟨p, q, h1, h2⟩ := spl_ext hx l
    rw [List.cons_append, spl, spl, h1, h2]
    by_cases e : y = c
    · rw [if_pos e, if_pos e]
      exact ⟨[] :: p, q, rfl, rfl⟩
    · rw [if_neg e, if_neg e]
      cases p with
      | nil => exact ⟨[], y :: q, rfl, rfl⟩
      | cons h t => exact ⟨(y :: h) :: t, q, rfl, rfl⟩
/-- a row of texts of one's own. -/
def SOwn (w : World) (base : Nat) (v : Value) (l : List Bs) : Prop := w.ownsRow base 9 1 v l.length (l.map vs)
theorem SOwn.row {w : World} {base : Nat} {v : Value} {l : List Bs} {n : Nat} (h : SOwn w base v l) (hn : l.length = n) : w.ownsRow base 9 1 v n (l.map vs) := by subst hn; exact h
theorem SOwn.form {w : World} {base n : Nat} {v : Value} {l : List Bs} (h : SOwn w base v l) (hn : l.length = n) : ∃ A c, v = .slice A n c := by
  rcases h.2 with ⟨rfl, h0⟩ | ⟨g, cap, cur, rfl, _⟩
  · exact ⟨none, 0, by rw [← hn, h0]⟩
  · exact ⟨_, _, by rw [hn]⟩
theorem s_base {w : World} {base : Nat} {v : Value} {l : List Bs} (h : SOwn w base v l) (k : Nat) (hk : v.ownBlock = some k) : base ≤ k := by
  rcases h.2 with ⟨rfl, _⟩ | ⟨g, cap, cur, rfl, hb, _⟩
  · simp [Value.ownBlock] at hk
  · have : g = k := by simpa [Value.ownBlock] using hk
    omega
theorem s_grown {w W W' : World} {base : Nat} {v : Value} {l : List Bs} {o : Obj} (hb : Below base w W) (hs : base ≤ W.heap.size) (h : SOwn W base v l) (hg : (W.alloc o).grownBy W' v.ownBlock) : Below base w W' :=
  (hb.alloc hs o).grown hg (by simp; omega) (fun b hb => s_base h b hb)
theorem SOwn.drew {w : World} {base : Nat} {v : Value} {l : List Bs} (h : SOwn w base v l) : SOwn w.drew base v l := h
theorem ba_two (a b : Bs) : ba a ++ ba b = ba (a ++ b) := by
  apply ba_ext
  simp [L]
theorem SOwn.last {w : World} {base n : Nat} {v : Value} {p : List Bs} {q : Bs} (h : SOwn w base v (p ++ [q])) (hn : p.length = n) (y : Bs) :
    ∃ g cap, v = .slice (some ⟨g, 0, none⟩) (n + 1) cap ∧ base ≤ g ∧ n + 1 ≤ cap ∧ w.cell? ⟨g, n, none⟩ = some (vs q) ∧ w.frozen? ⟨g, n, none⟩ = false ∧ SOwn (w.setCell ⟨g, n, none⟩ (vs y)) base v (p ++ [y]) := by
  obtain ⟨h1, h2⟩ := h
  have hl : (p ++ [q]).length = n + 1 := by simp [hn]
  rcases h2 with ⟨h', h0⟩ | ⟨g, cap, cur, hv, hb, hg, hnc, hcm, hcs, htake⟩
  · omega
  · rw [hl] at hv hnc htake
    have hsz : n < cur.size := by omega
    refine ⟨g, cap, hv, hb, hnc, ?_, frozen_of_row w g n cur _ hg, ?_⟩
    · rw [cell_of_row w g n cur _ (0, 0) hg]
      have e := congrArg (fun l : List Value => l[n]?) htake
      simp only [List.getElem?_take, List.getElem?_map] at e
      rw [if_pos (by omega)] at e
      rw [← Array.getElem?_toList, e, List.getElem?_append_right (by omega), hn]
      simp
    · refine ⟨by simp, .inr ⟨g, cap, cur.setIfInBounds n (vs y), ?_, hb, heap_setCell_same w g n cur _ _ hg, by simpa [hn] using hnc, hcm, by simpa using hcs, ?_⟩⟩
      · rw [hv]; simp [hn]
      · have hl2 : (p ++ [y]).length = n + 1 := by simp [hn]
        rw [Array.toList_setIfInBounds, hl2, List.take_set, htake, List.map_append, List.map_append, List.set_append_right _ _ (by simp [hn]), List.length_map, hn]
        simp
theorem info_strs : (Tryz.prog.info? 9).map (fun i => (i.zero, i.size, i.bytes)) = some (some (.string ByteArray.empty), 1, 16) := info_str
theorem SOwn.snoc {w : World} {base : Nat} {v : Value} {l : List Bs} {n : Nat} (h : w.ownsRow base 9 1 v (n + 1) (l.map vs ++ [vs []])) (hn : l.length = n) : SOwn w base v (l ++ [[]]) := by
  subst hn
  unfold SOwn
  rw [List.length_append, List.map_append]
  exact h
set_option maxRecDepth 100000 in
set_option maxHeartbeats 4000000 in
theorem parts_calls (s : Bs) (hs : s.length ≤ 1000000) (w : World) : Calls Tryz.prog 33 #[vs s] w fun e w' => ∃ v, e = .returned v ∧ SOwn w' w.heap.size v (spl 47 s) ∧ Below w.heap.size w w' := by
  obtain ⟨i0, hi, hz0, hz1, hz2⟩ := info_parts info_strs
  have HI := Lib.hid hi
  have HZ0 := Lib.hid hz0
  have HZ1 := Lib.hid hz1
  have HZ2 := Lib.hid hz2
  have hsz := sz s
  clear hi hz0 hz1 hz2
  obtain ⟨w0, hw0⟩ : ∃ w0, w.alloc (.cells #[vs []] 9) = w0 := ⟨_, rfl⟩
  have HB0 := Lib.hid (show Below w.heap.size w w0 by rw [← hw0]; exact (Below.refl _ w).alloc (Nat.le_refl _) _)
  have HO0 := Lib.hid (show SOwn w0 w.heap.size (.slice (some ⟨w.heap.size, 0, none⟩) 1 1) [[]] by rw [← hw0]; exact ⟨rfl, .inr ⟨_, 1, _, rfl, Nat.le_refl _, heap_alloc_new w _, Nat.le_refl _, by unfold maxLen; omega, rfl, rfl⟩⟩)
  have hw0' : w.alloc (.cells #[.string ⟨#[]⟩] 9) = w0 := hw0
  clear hw0
  go_enter Tryz.func33, Tryz.ntmps33
  go_wp2_with fail
  go_loopw [3, 4] (fun v3 v4 wr => ∃ i : Nat, i ≤ s.length ∧ v4 = .int .i64 i ∧ Hid (SOwn wr w.heap.size v3 (spl 47 (s.take i))) ∧ Hid (Below w.heap.size w wr)) (fun _ v4 _ => s.length - (intOf v4).toNat)
  case atStart => exact ⟨0, Nat.zero_le _, rfl, HO0, HB0⟩
  case round =>
    clear HO0 HB0
    obtain ⟨i, hil, rfl, HO, HB⟩ := hrel
    have hbz := HB.out.size
    have hle : (spl 47 (s.take i)).length ≤ 1000001 := by
      have h1 := (split_parts 47 (s.take i)).2
      have h2 := Lib.countB_le ⟨#[47]⟩ (Nat.le_refl _) _ (ba (s.take i)) (Nat.le_refl _)
      rw [sz, List.length_take] at h2
      omega
    by_cases hlt : i < s.length
    · have hi0 : (0 : Int) ≤ (i : Int) := by omega
      have hi1 : (i : Int) < (s.length : Int) := by omega
      have htk : s.take (i + 1) = s.take i ++ [s[i]] := by rw [List.take_add_one, List.getElem?_eq_getElem hlt]; rfl
      have hgb : (ba s)[i]'(by rw [sz]; exact hlt) = s[i] := rfl
      have hx1 : (ba s).extract i (i + 1) = ba [s[i]] := by
        apply ba_ext
        rw [L_extract]
        show ((s.drop i).take (i + 1 - i)) = [s[i]]
        rw [List.drop_eq_getElem_cons hlt, show i + 1 - i = 1 by omega]
        rfl
      have HTK := Lib.hid htk
      obtain ⟨x, hx⟩ : ∃ x, s[i] = x := ⟨_, rfl⟩
      rw [hx] at hx1 HTK
      have HXX := Lib.hid hx
      by_cases h47 : x = 47
      · have hb47 : (((ba s)[i]'(by rw [sz]; exact hlt)).toNat : Int) = 47 := by rw [hgb, hx, h47]; rfl
        have HN := Lib.hid (show spl 47 (s.take (i + 1)) = spl 47 (s.take i) ++ [[]] by rw [HTK.out, h47, spl_hit])
        obtain ⟨n, hn⟩ : ∃ n, (spl 47 (s.take i)).length = n := ⟨_, rfl⟩
        obtain ⟨A, c, rfl⟩ := SOwn.form HO.out hn
        obtain ⟨Lq, hLq⟩ : ∃ q, spl 47 (s.take i) = q := ⟨_, rfl⟩
        rw [hLq] at HO HN hn
        have HLN := Lib.hid hn
        have hn1 : n ≤ 1000001 := by rw [← hn, ← hLq]; exact hle
        clear hLq hn hle hx htk hx1 hgb
        go_wp2_with (at_builtin; refine wpList_append_own _ rfl _ _ 47 rfl w.heap.size 9 i0 (.string ByteArray.empty) 1 16 Tryz.underlying47 HI.out HZ0.out HZ1.out HZ2.out rfl (by decide) _ _ _ rfl ((SOwn.row HO.out HLN.out).alloc _) ⟨wr.heap.size, 0, none⟩ 1 1 [vs []] rfl rfl ?c1 ?c2 ?c3 ?c4 ?c5 ?_)
        case c1 => exact cell_one_new _ _ _
        case c2 => intro u hu; simp at hu; subst hu; rfl
        case c3 => unfold maxLen; omega
        case c4 => omega
        case c5 => simp; omega
        intro v' w2 hown1 hgrow1 _
        have HO2 := Lib.hid (SOwn.snoc hown1 HLN.out)
        have HB2 := Lib.hid (s_grown HB.out hbz HO.out hgrow1)
        clear hown1 hgrow1
        rw [← HN.out] at HO2
        go_wp2
        exact ⟨⟨i + 1, by omega, by go_num, HO2, HB2⟩, by simp [intOf]; omega⟩
      · have hb47 : ((((ba s)[i]'(by rw [sz]; exact hlt)).toNat : Int) == 47) = false := by
          rw [hgb, hx, beq_eq_false_iff_ne]
          intro h
          exact h47 (UInt8.toNat_inj.1 (by show x.toNat = 47; omega))
        obtain ⟨p, q, hp1, hp2⟩ := spl_ext h47 (s.take i)
        have HN := Lib.hid (show spl 47 (s.take (i + 1)) = p ++ [q ++ [x]] by rw [HTK.out, hp2])
        rw [hp1] at HO hle
        obtain ⟨n, hn⟩ : ∃ n, p.length = n := ⟨_, rfl⟩
        obtain ⟨g, cap, rfl, hbg, hcap, hcl, hfr, hst⟩ := SOwn.last HO.out hn (q ++ [x])
        have HST := Lib.hid hst
        have hn1 : n ≤ 1000001 := by simp [hn] at hle; omega
        have hql : q.length ≤ 1000000 := by
          have := spl_len 47 (s.take i) q (by rw [hp1]; simp)
          rw [List.length_take] at this
          omega
        clear hst hx htk hgb hle hp1 hp2 hn
        have e1 : ((n : Int) + 1 - 1) = (n : Int) := by omega
        have e2 : IntKind.i64.wrap ((n : Int) + 1 - 1) = (n : Int) := by rw [IntWalk.i64_in _ ⟨by omega, by omega⟩]; omega
        have e9 : (i : Int) ≤ (i : Int) + 1 := by omega
        have e10 : ((i : Int) + 1).toNat = i + 1 := by omega
        have e11 : (0 : Int) ≤ (i : Int) + 1 := by omega
        have e12 : i < s.length := hlt
        have e13 : i + 1 ≤ s.length := by omega
        have e8 : IntKind.i64.wrap (n : Int) = (n : Int) := IntWalk.i64_in _ ⟨by omega, by omega⟩
        have e3 : IntKind.i64.wrap ((i : Int) + 1) = (i : Int) + 1 := IntWalk.i64_in _ ⟨by omega, by omega⟩
        have e4 : (i : Int) + 1 ≤ (s.length : Int) := by omega
        have e5 : ¬ 9223372036854775807 < q.length + 1 := by omega
        have e6 : (n : Int) < (n : Int) + 1 := by omega
        have e7 : (0 : Int) ≤ (n : Int) := by omega
        go_wp2_with fail
        go_still_tail 17, (by kernel_rfl)
        change wpList _ _ _ _ _ wr.drew
        go_wp2_with fail
        rw [ba_two q [x]]
        have hb2 := HB.out.trans ((Turn.setCell (fp := fun k => k = g) wr ⟨g, n, none⟩ (vs (q ++ [x])) rfl).below hbz (fun k hk e => by omega))
        exact ⟨⟨i + 1, by omega, by go_num, Lib.hid (by rw [HN.out]; exact SOwn.drew HST.out), Lib.hid (below_drewN' hb2)⟩, by simp [intOf]; omega⟩
    · have hie : i = s.length := by omega
      subst hie
      rw [List.take_length] at HO
      go_wp2
      go_ret
      exact ⟨_, rfl, HO.out, HB.out⟩
end Go.Proofs.YthgjhfcafdepcaaGreatDoor.Tk

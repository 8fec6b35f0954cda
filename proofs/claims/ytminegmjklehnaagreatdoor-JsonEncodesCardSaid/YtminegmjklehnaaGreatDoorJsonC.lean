/-
  The reader of JSON: number.
-/
import Derived.Test.YtminegmjklehnaaGreatDoorJsonB
import Derived.Lib.AtoiErrMem
namespace Go.Proofs.YtminegmjklehnaaGreatDoor.J
open Go.RowKit Go.Proofs.YtminegmjklehnaaGreatDoor.B
open Go.Proofs.YtminegmjklehnaaGreatDoor.M hiding Bs
open Go.Proofs.YtminegmjklehnaaGreatDoor.C (QRow Turn)
set_option linter.unusedVariables false
set_option linter.unusedSimpArgs false

theorem negP_take (L : Bs) : negP L = takeB [45] L := by
  cases L with
  | nil => rfl
  | cons c L =>
    rw [takeB_cons]
    show (if c == 45 then _ else _) = _
    by_cases h : c = 45
    · subst h; rfl
    · have h1 : (c == 45) = false := by simpa using h
      have h2 : ([45] : Bs).contains c = false := by simp [h]
      rw [h1, h2]
theorem fracP_take (L : Bs) : fracP L = if (takeB [46] L).1 then (match digitsP (takeB [46] L).2 with
    | .error e => .error e
    | .ok (_, M) => .ok (true, M)) else .ok (false, (takeB [46] L).2) := by
  cases L with
  | nil => rfl
  | cons c L =>
    rw [takeB_cons]
    show (if c == 46 then _ else _) = _
    by_cases h : c = 46
    · subst h; rfl
    · have h1 : (c == 46) = false := by simpa using h
      have h2 : ([46] : Bs).contains c = false := by simp [h]
      rw [h1, h2]; rfl
theorem expP_take (L : Bs) : expP L = if (takeB [101, 69] L).1 then (match digitsP (takeB [43, 45] (takeB [101, 69] L).2).2 with
    | .error e => .error e
    | .ok (_, M) => .ok (true, M)) else .ok (false, (takeB [101, 69] L).2) := by
  have hs : ∀ L, signP L = (takeB [43, 45] L).2 := by
    intro L
    cases L with
    | nil => rfl
    | cons c L =>
      rw [takeB_cons]
      show (if (c == 43 || c == 45) then _ else _) = _
      by_cases h : c = 43
      · subst h; rfl
      by_cases h' : c = 45
      · subst h'; rfl
      have h1 : (c == 43 || c == 45) = false := by simp [h, h']
      have h2 : ([43, 45] : Bs).contains c = false := by simp [h, h']
      rw [h1, h2]; rfl
  cases L with
  | nil => rfl
  | cons c L =>
    rw [takeB_cons]
    show (if (c == 101 || c == 69) then _ else _) = _
    by_cases h : c = 101
    · subst h; rw [← hs]; rfl
    by_cases h' : c = 69
    · subst h'; rw [← hs]; rfl
    have h1 : (c == 101 || c == 69) = false := by simp [h, h']
    have h2 : ([101, 69] : Bs).contains c = false := by simp [h, h']
    rw [h1, h2]; rfl
theorem wholeP_take (L : Bs) : wholeP L = if (takeB [48] L).1 then .ok ([48], (takeB [48] L).2) else digitsP (takeB [48] L).2 := by
  cases L with
  | nil => rfl
  | cons c L =>
    rw [takeB_cons]
    show (if c == 48 then _ else _) = _
    by_cases h : c = 48
    · subst h; rfl
    · have h1 : (c == 48) = false := by simpa using h
      have h2 : ([48] : Bs).contains c = false := by simp [h]
      rw [h1, h2]; rfl
abbrev digs : Bs := [48, 49, 50, 51, 52, 53, 54, 55, 56, 57]
theorem digitsP_eq (L : Bs) : digitsP L = if (L.takeWhile digs.contains).isEmpty then .error 3 else .ok (L.takeWhile digs.contains, L.dropWhile digs.contains) := rfl
theorem decNat_val : ∀ (l : Bs) (a : Nat), (∀ c ∈ l, isDig c = true) → ∃ m, Lib.decFrom a l = some m ∧ (m : Int) = l.foldl (fun a c => a * 10 + ((c.toNat : Int) - 48)) (a : Int)
  | [], a, _ => ⟨a, rfl, rfl⟩
  | c :: l, a, h => by
    have hc := h c (by simp)
    rw [isDig_iff] at hc
    have hd : Lib.digitVal c = some (c.toNat - 48) := by
      unfold Lib.digitVal
      rw [if_pos hc]
    obtain ⟨m, h1, h2⟩ := decNat_val l (a * 10 + (c.toNat - 48)) (fun x hx => h x (by simp [hx]))
    refine ⟨m, ?_, ?_⟩
    · rw [Lib.decFrom, hd]
      exact h1
    · rw [h2, List.foldl_cons]
      congr 1
      omega
theorem atoi_val {l : Bs} (h : ∀ c ∈ l, isDig c = true) (hne : l ≠ []) : Lib.atoi l = some (decV l) := by
  obtain ⟨m, h1, h2⟩ := decNat_val l 0 h
  cases l with
  | nil => exact absurd rfl hne
  | cons c l =>
    have hc := h c (by simp)
    rw [isDig_iff] at hc
    have c45 : (c == 45) = false := by
      rw [beq_eq_false_iff_ne]
      rintro rfl
      exact absurd hc (by decide)
    have c43 : (c == 43) = false := by
      rw [beq_eq_false_iff_ne]
      rintro rfl
      exact absurd hc (by decide)
    have e : Lib.atoi (c :: l) = if c == 45 then (Lib.decNat l).map fun (m : Nat) => -(m : Int) else if c == 43 then (Lib.decNat l).map fun (m : Nat) => (m : Int) else (Lib.decNat (c :: l)).map fun (m : Nat) => (m : Int) := rfl
    rw [e, c45, c43]
    show (Lib.decNat (c :: l)).map _ = _
    unfold Lib.decNat
    rw [if_neg (by simp), h1]
    show some (m : Int) = _
    rw [h2]
    rfl
theorem tw_digits (L : Bs) : ∀ c ∈ L.takeWhile digs.contains, isDig c = true := by
  intro c hc
  obtain ⟨k, hk, rfl⟩ := List.mem_iff_getElem.1 hc
  obtain ⟨d, h1, h2⟩ := tw_at digs.contains L k hk
  have h3 : (L.takeWhile digs.contains)[k] = d := by
    have h4 := (tw_take digs.contains L).1
    have h5 : (L.takeWhile digs.contains)[k]? = some d := by rw [← h4, List.getElem?_take, if_pos hk]; exact h1
    rw [List.getElem?_eq_getElem hk] at h5
    exact Option.some.inj h5
  rw [h3]
  exact h2
theorem numP_eq (L : Bs) : numP L = match wholeP (takeB [45] L).2 with
  | .error e => .error e
  | .ok (wh, L2) => numTail (takeB [45] L).1 wh L2 := by
  unfold numP
  rw [negP_take]
  rfl
theorem ne_str (q : Bs) : ((q != []) = !q.isEmpty) := by cases q <;> rfl
theorem five_of {w : World} {b : Nat} {x0 x1 x2 x3 x4 : Value} {e : TypeId} (h : w.heap[b]? = some (.cells #[x0, x1, x2, x3, x4] e (0, 0))) :
    w.cell? ⟨b, 0, none⟩ = some x0 ∧ w.cell? ⟨b, 1, none⟩ = some x1 ∧ w.cell? ⟨b, 2, none⟩ = some x2 ∧ w.cell? ⟨b, 3, none⟩ = some x3 ∧ w.cell? ⟨b, 4, none⟩ = some x4 ∧
    w.frozen? ⟨b, 0, none⟩ = false ∧ w.frozen? ⟨b, 1, none⟩ = false ∧ w.frozen? ⟨b, 2, none⟩ = false ∧ w.frozen? ⟨b, 3, none⟩ = false ∧ w.frozen? ⟨b, 4, none⟩ = false :=
  ⟨cells_of h 0 _ rfl, cells_of h 1 _ rfl, cells_of h 2 _ rfl, cells_of h 3 _ rfl, cells_of h 4 _ rfl, frz_of h 0, frz_of h 1, frz_of h 2, frz_of h 3, frz_of h 4⟩
theorem set5 {w : World} {b : Nat} {x0 x1 x2 x3 x4 : Value} {e : TypeId} (h : w.heap[b]? = some (.cells #[x0, x1, x2, x3, x4] e (0, 0))) (y0 y1 y2 y3 y4 : Value) :
    (((((w.setCell ⟨b, 0, none⟩ y0).setCell ⟨b, 1, none⟩ y1).setCell ⟨b, 2, none⟩ y2).setCell ⟨b, 3, none⟩ y3).setCell ⟨b, 4, none⟩ y4).heap[b]? = some (.cells #[y0, y1, y2, y3, y4] e (0, 0)) :=
  heap_setCell_same _ b 4 _ _ y4 (heap_setCell_same _ b 3 _ _ y3 (heap_setCell_same _ b 2 _ _ y2 (heap_setCell_same _ b 1 _ _ y1 (heap_setCell_same w b 0 _ _ y0 h))))
theorem set5_turn {fp : Nat → Prop} (w : World) (b : Nat) (hb : fp b) (y0 y1 y2 y3 y4 : Value) : Turn fp w (((((w.setCell ⟨b, 0, none⟩ y0).setCell ⟨b, 1, none⟩ y1).setCell ⟨b, 2, none⟩ y2).setCell ⟨b, 3, none⟩ y3).setCell ⟨b, 4, none⟩ y4) :=
  turn_then (turn_then (turn_then (turn_then (Turn.setCell _ _ _ hb) (Turn.setCell _ _ _ hb)) (Turn.setCell _ _ _ hb)) (Turn.setCell _ _ _ hb)) (Turn.setCell _ _ _ hb)
/-- the result's block is new, and is set at the end. -/
theorem num_end {w w' : World} {rb : Nat} {L : Bs} {deep : Int} {b : Nat} {x0 x1 x2 x3 x4 : Value} (y0 y1 y2 y3 y4 : Value) (hne : rb ≠ b) (hnew : w.heap.size ≤ b) (hg : w'.heap[b]? = some (.cells #[x0, x1, x2, x3, x4] 27 (0, 0))) (hR : RB w' rb L deep) (hA : At rb w w') :
    ∀ W, W = (((((w'.setCell ⟨b, 0, none⟩ y0).setCell ⟨b, 1, none⟩ y1).setCell ⟨b, 2, none⟩ y2).setCell ⟨b, 3, none⟩ y3).setCell ⟨b, 4, none⟩ y4) →
    W.heap[b]? = some (.cells #[y0, y1, y2, y3, y4] 27 (0, 0)) ∧ RB W rb L deep ∧ At rb w W := by
  rintro W rfl
  have hT := set5_turn (fp := fun k => k = b) w' b rfl y0 y1 y2 y3 y4
  exact ⟨set5 hg _ _ _ _ _, hR.kept (hT.block _ hR.lt hne), Turn.trans hA hT (fun k hk hlt => by omega)⟩
set_option maxRecDepth 100000 in
set_option maxHeartbeats 16000000 in
theorem number_calls {w : World} {rb : Nat} {L : Bs} {deep : Int} (h : RB w rb L deep) :
    Calls Tryz.prog 46 #[.pointer (some ⟨rb, 0, none⟩)] w (Ends rb deep w (fun _ n e => e = .returned (jAgg 2 n [] none 0 0 none 0 0)) (numP L)) := by
  have hA0 : At rb w (w.alloc (.cells (jcs 0 0 [] none 0 0 none 0 0) 27)) := at_below ((Below.refl _ w).alloc (Nat.le_refl _) _)
  have HR := Lib.hid (h.below ((Below.refl _ w).alloc (Nat.le_refl _) (.cells (jcs 0 0 [] none 0 0 none 0 0) 27)))
  have HA := Lib.hid hA0
  have HG := Lib.hid (heap_alloc_new w (.cells (jcs 0 0 [] none 0 0 none 0 0) 27))
  have hrl := h.lt
  have hne : rb ≠ w.heap.size := Nat.ne_of_lt hrl
  have HN := Lib.hid (numP_eq L)
  clear h hA0
  go_enter Tryz.func46, Tryz.ntmps46
  go_wp2_with fail
  refine (take_calls HR.out ⟨#[45]⟩ [45] rfl).mono ?_
  rintro e w1 ⟨rfl, hR, hA⟩
  generalize takeB [45] L = p at *
  obtain ⟨neg, L1⟩ := p
  dsimp only at hR HN ⊢
  have HG1 := Lib.hid ((hA.block _ (lt_of_heap HG.out) (fun e => hne e.symm)).trans HG.out)
  have HR1 := Lib.hid hR
  have HA1 := Lib.hid (At.trans HA.out hA)
  clear hR hA HA HR HG
  -- PRINTED
  have HR := HR1
  have HA := HA1
  have HG := HG1
  clear HR1 HA1 HG1
  have HW := Lib.hid (wholeP_take L1)
  go_wp2_with fail
  refine (take_calls HR.out ⟨#[48]⟩ [48] rfl).mono ?_
  rintro e w2 ⟨rfl, hR, hA⟩
  generalize takeB [48] L1 = p at *
  obtain ⟨z, L2⟩ := p
  dsimp only at hR HW ⊢
  have HG := Lib.hid ((hA.block _ (lt_of_heap HG.out) (fun e => hne (e.symm))).trans HG.out)
  have HR := Lib.hid hR
  have HA := Lib.hid (At.trans HA.out hA)
  clear hR hA
  cases z
  · have HD := Lib.hid (digitsP_eq L2)
    have HDG := Lib.hid (tw_digits L2)
    go_wp2_with fail
    refine (many_calls HR.out ⟨#[48, 49, 50, 51, 52, 53, 54, 55, 56, 57]⟩ digs rfl).mono ?_
    rintro e w3 ⟨rfl, hR, hA⟩
    obtain ⟨wh, hwh⟩ : ∃ wh, L2.takeWhile digs.contains = wh := ⟨_, rfl⟩
    obtain ⟨L3, hL3⟩ : ∃ M, L2.dropWhile digs.contains = M := ⟨_, rfl⟩
    rw [hwh, hL3] at HD
    rw [hwh] at HDG ⊢
    rw [hL3] at hR
    clear hwh hL3
    have HG := Lib.hid ((hA.block _ (lt_of_heap HG.out) (fun e => hne (e.symm))).trans HG.out)
    have HR := Lib.hid hR
    have HA := Lib.hid (At.trans HA.out hA)
    clear hR hA
    obtain ⟨em, hem⟩ : ∃ em, wh.isEmpty = em := ⟨_, rfl⟩
    rw [hem] at HD
    cases em
    · have HEM := Lib.hid hem
      have HNE := Lib.hid (show wh ≠ [] by intro e; rw [e] at hem; cases hem)
      have HX := Lib.hid (show numP L = numTail neg wh L3 by simp [HN.out, HW.out, HD.out])
      go_wp2_with fail
      refine (must_true _).mono ?_
      rintro e w4 ⟨rfl, rfl⟩
      clear hem
      have hsz := sz wh
      have HF := Lib.hid (fracP_take L3)
      go_wp2_with fail
      refine (take_calls HR.out ⟨#[46]⟩ [46] rfl).mono ?_
      rintro e w5 ⟨rfl, hR, hA⟩
      generalize takeB [46] L3 = p at *
      obtain ⟨f, L4⟩ := p
      dsimp only at hR HF ⊢
      have HG := Lib.hid ((hA.block _ (lt_of_heap HG.out) (fun e => hne (e.symm))).trans HG.out)
      have HR := Lib.hid hR
      have HA := Lib.hid (At.trans HA.out hA)
      clear hR hA
      cases f
      · have HF2 := Lib.hid (show fracP L3 = .ok (false, L4) by simp [HF.out])
        have HE := Lib.hid (expP_take L4)
        go_wp2_with fail
        refine (take_calls HR.out ⟨#[101, 69]⟩ [101, 69] rfl).mono ?_
        rintro e w8 ⟨rfl, hR, hA⟩
        generalize takeB [101, 69] L4 = p at *
        obtain ⟨x, L6⟩ := p
        dsimp only at hR HE ⊢
        have HG := Lib.hid ((hA.block _ (lt_of_heap HG.out) (fun e => hne (e.symm))).trans HG.out)
        have HR := Lib.hid hR
        have HA := Lib.hid (At.trans HA.out hA)
        clear hR hA
        cases x
        · have HE2 := Lib.hid (show expP L4 = .ok (false, L6) by simp [HE.out])
          by_cases hl : wh.length ≤ 15
          rotate_left
          · have HL15 := Lib.hid hl
            have hld : decide ((wh.length : Int) ≤ 15) = false := decide_eq_false (by omega)
            clear hl
            go_wp2_with fail
            refine (fails_calls 1 _).mono ?_
            rintro e wz ⟨rfl, rfl⟩
            refine ⟨rfl, HA.out, ?_⟩
            rw [HX.out]; unfold numTail; rw [HF2.out]; dsimp only; rw [HE2.out]; dsimp only; rw [if_pos (by have := HL15.out; simp; omega)]
          have HL := Lib.hid hl
          have hld : decide ((wh.length : Int) ≤ 15) = true := decide_eq_true (by omega)
          have HAT := Lib.hid (fun w => Tryz.strconv_Atoi ⟨(wh : Bs).toArray⟩ (decV wh) (by rw [sz]; have := HL.out; omega) (atoi_val HDG.out HNE.out) w)
          have hbd := decV_bound _ wh rfl HDG.out
          have hbd2 : (decV wh) < 1000000000000000 := by
            have hp : (10 : Int) ^ (wh : Bs).length ≤ 10 ^ 15 := by exact_mod_cast Nat.pow_le_pow_right (by omega) HL.out
            omega
          have hbd1 := hbd.1
          clear hbd
          have HDV := Lib.hid (show numP L = .ok (if neg then - decV wh else decV wh, L6) by rw [HX.out]; unfold numTail; rw [HF2.out]; dsimp only; rw [HE2.out]; dsimp only; rw [if_neg (by have := HL.out; simp; try omega)])
          generalize decV wh = dv at *
          go_wp2_with fail
          refine (HAT.out _).mono ?_
          rintro e w12 ⟨rfl, tq, hw12⟩
          have hB12 : Below _ _ w12 := hw12 ▸ Lib.bytesWorld_below _ _ _
          have HR := Lib.hid (HR.out.below hB12)
          have HG := Lib.hid ((hB12.block _ (lt_of_heap HG.out)).trans HG.out)
          have HA := Lib.hid (At.below HA.out hB12)
          clear hB12 hw12
          cases neg
          · go_wp2_with fail
            refine (Number_calls (dv) _).mono ?_
            rintro e w13 ⟨rfl, hB13⟩
            have HR := Lib.hid (HR.out.below hB13)
            have HA := Lib.hid (At.below HA.out hB13)
            have hg := (hB13.block _ (lt_of_heap HG.out)).trans HG.out
            have HF := Lib.hid (fun (W : World) => num_end (.int .i64 2) (.int .i64 (dv)) (.string ⟨#[]⟩) (.slice none 0 0) (.slice none 0 0) hne (Nat.le_refl _) hg HR.out HA.out W)
            obtain ⟨q0, q1, q2, q3, q4, f0, f1, f2, f3, f4⟩ := five_of hg
            clear hg hB13
            go_wp2
            obtain ⟨hg2, hR2, hA2⟩ := HF.out _ rfl
            refine bodyPost_ret (results_cell_row rfl _ _ w.heap.size 27 (jcs 2 (dv) [] none 0 0 none 0 0) (0, 0) _ rfl hg2 Tryz.underlying27 rfl (by kernel_rfl)) rfl ?_
            rw [HDV.out]
            exact ⟨hA2, rfl, hR2⟩
          · go_wp2_with fail
            refine (Number_calls (-dv) _).mono ?_
            rintro e w13 ⟨rfl, hB13⟩
            have HR := Lib.hid (HR.out.below hB13)
            have HA := Lib.hid (At.below HA.out hB13)
            have hg := (hB13.block _ (lt_of_heap HG.out)).trans HG.out
            have HF := Lib.hid (fun (W : World) => num_end (.int .i64 2) (.int .i64 (-dv)) (.string ⟨#[]⟩) (.slice none 0 0) (.slice none 0 0) hne (Nat.le_refl _) hg HR.out HA.out W)
            obtain ⟨q0, q1, q2, q3, q4, f0, f1, f2, f3, f4⟩ := five_of hg
            clear hg hB13
            go_wp2
            obtain ⟨hg2, hR2, hA2⟩ := HF.out _ rfl
            refine bodyPost_ret (results_cell_row rfl _ _ w.heap.size 27 (jcs 2 (-dv) [] none 0 0 none 0 0) (0, 0) _ rfl hg2 Tryz.underlying27 rfl (by kernel_rfl)) rfl ?_
            rw [HDV.out]
            exact ⟨hA2, rfl, hR2⟩
        · go_wp2_with fail
          refine (take_calls HR.out ⟨#[43, 45]⟩ [43, 45] rfl).mono ?_
          rintro e w9 ⟨rfl, hR, hA⟩
          generalize takeB [43, 45] L6 = p at *
          obtain ⟨sg, L7⟩ := p
          dsimp only at hR HE ⊢
          have HG := Lib.hid ((hA.block _ (lt_of_heap HG.out) (fun e => hne (e.symm))).trans HG.out)
          have HR := Lib.hid hR
          have HA := Lib.hid (At.trans HA.out hA)
          clear hR hA
          have HD3 := Lib.hid (digitsP_eq L7)
          go_wp2_with fail
          refine (many_calls HR.out ⟨#[48, 49, 50, 51, 52, 53, 54, 55, 56, 57]⟩ digs rfl).mono ?_
          rintro e w10 ⟨rfl, hR, hA⟩
          obtain ⟨xd, hxd⟩ : ∃ xd, L7.takeWhile digs.contains = xd := ⟨_, rfl⟩
          obtain ⟨L8, hL8⟩ : ∃ M, L7.dropWhile digs.contains = M := ⟨_, rfl⟩
          rw [hxd, hL8] at HD3
          rw [hxd]
          rw [hL8] at hR
          clear hxd hL8
          have HG := Lib.hid ((hA.block _ (lt_of_heap HG.out) (fun e => hne (e.symm))).trans HG.out)
          have HR := Lib.hid hR
          have HA := Lib.hid (At.trans HA.out hA)
          clear hR hA
          obtain ⟨em3, hem⟩ : ∃ em, xd.isEmpty = em := ⟨_, rfl⟩
          rw [hem] at HD3
          cases em3
          · have HEM3 := Lib.hid hem
            have HE2 := Lib.hid (show expP L4 = .ok (true, L8) by simp [HE.out, HD3.out])
            go_wp2_with fail
            refine (must_true _).mono ?_
            rintro e w11 ⟨rfl, rfl⟩
            clear hem
            go_wp2_with fail
            refine (fails_calls 1 _).mono ?_
            rintro e wz ⟨rfl, rfl⟩
            refine ⟨rfl, HA.out, ?_⟩
            rw [HX.out]; unfold numTail; rw [HF2.out]; dsimp only; rw [HE2.out]; dsimp only; rw [if_pos (by simp)]
          · have HEM3 := Lib.hid hem
            have HE2 := Lib.hid (show expP L4 = .error 3 by simp [HE.out, HD3.out])
            go_wp2_with fail
            refine (must_false _).mono ?_
            rintro e wz ⟨rfl, rfl⟩
            refine ⟨rfl, HA.out, ?_⟩
            simp [HX.out, numTail, HF2.out, HE2.out]
      · have HD2 := Lib.hid (digitsP_eq L4)
        go_wp2_with fail
        refine (many_calls HR.out ⟨#[48, 49, 50, 51, 52, 53, 54, 55, 56, 57]⟩ digs rfl).mono ?_
        rintro e w6 ⟨rfl, hR, hA⟩
        obtain ⟨fd, hfd⟩ : ∃ fd, L4.takeWhile digs.contains = fd := ⟨_, rfl⟩
        obtain ⟨L5, hL5⟩ : ∃ M, L4.dropWhile digs.contains = M := ⟨_, rfl⟩
        rw [hfd, hL5] at HD2
        rw [hfd]
        rw [hL5] at hR
        clear hfd hL5
        have HG := Lib.hid ((hA.block _ (lt_of_heap HG.out) (fun e => hne (e.symm))).trans HG.out)
        have HR := Lib.hid hR
        have HA := Lib.hid (At.trans HA.out hA)
        clear hR hA
        obtain ⟨em2, hem⟩ : ∃ em, fd.isEmpty = em := ⟨_, rfl⟩
        rw [hem] at HD2
        cases em2
        · have HEM2 := Lib.hid hem
          have HF2 := Lib.hid (show fracP L3 = .ok (true, L5) by simp [HF.out, HD2.out])
          go_wp2_with fail
          refine (must_true _).mono ?_
          rintro e w7 ⟨rfl, rfl⟩
          clear hem
          have HE := Lib.hid (expP_take L5)
          go_wp2_with fail
          refine (take_calls HR.out ⟨#[101, 69]⟩ [101, 69] rfl).mono ?_
          rintro e w8 ⟨rfl, hR, hA⟩
          generalize takeB [101, 69] L5 = p at *
          obtain ⟨x, L6⟩ := p
          dsimp only at hR HE ⊢
          have HG := Lib.hid ((hA.block _ (lt_of_heap HG.out) (fun e => hne (e.symm))).trans HG.out)
          have HR := Lib.hid hR
          have HA := Lib.hid (At.trans HA.out hA)
          clear hR hA
          cases x
          · have HE2 := Lib.hid (show expP L5 = .ok (false, L6) by simp [HE.out])
            go_wp2_with fail
            refine (fails_calls 1 _).mono ?_
            rintro e wz ⟨rfl, rfl⟩
            refine ⟨rfl, HA.out, ?_⟩
            rw [HX.out]; unfold numTail; rw [HF2.out]; dsimp only; rw [HE2.out]; dsimp only; rw [if_pos (by simp)]
          · go_wp2_with fail
            refine (take_calls HR.out ⟨#[43, 45]⟩ [43, 45] rfl).mono ?_
            rintro e w9 ⟨rfl, hR, hA⟩
            generalize takeB [43, 45] L6 = p at *
            obtain ⟨sg, L7⟩ := p
            dsimp only at hR HE ⊢
            have HG := Lib.hid ((hA.block _ (lt_of_heap HG.out) (fun e => hne (e.symm))).trans HG.out)
            have HR := Lib.hid hR
            have HA := Lib.hid (At.trans HA.out hA)
            clear hR hA
            have HD3 := Lib.hid (digitsP_eq L7)
            go_wp2_with fail
            refine (many_calls HR.out ⟨#[48, 49, 50, 51, 52, 53, 54, 55, 56, 57]⟩ digs rfl).mono ?_
            rintro e w10 ⟨rfl, hR, hA⟩
            obtain ⟨xd, hxd⟩ : ∃ xd, L7.takeWhile digs.contains = xd := ⟨_, rfl⟩
            obtain ⟨L8, hL8⟩ : ∃ M, L7.dropWhile digs.contains = M := ⟨_, rfl⟩
            rw [hxd, hL8] at HD3
            rw [hxd]
            rw [hL8] at hR
            clear hxd hL8
            have HG := Lib.hid ((hA.block _ (lt_of_heap HG.out) (fun e => hne (e.symm))).trans HG.out)
            have HR := Lib.hid hR
            have HA := Lib.hid (At.trans HA.out hA)
            clear hR hA
            obtain ⟨em3, hem⟩ : ∃ em, xd.isEmpty = em := ⟨_, rfl⟩
            rw [hem] at HD3
            cases em3
            · have HEM3 := Lib.hid hem
              have HE2 := Lib.hid (show expP L5 = .ok (true, L8) by simp [HE.out, HD3.out])
              go_wp2_with fail
              refine (must_true _).mono ?_
              rintro e w11 ⟨rfl, rfl⟩
              clear hem
              go_wp2_with fail
              refine (fails_calls 1 _).mono ?_
              rintro e wz ⟨rfl, rfl⟩
              refine ⟨rfl, HA.out, ?_⟩
              rw [HX.out]; unfold numTail; rw [HF2.out]; dsimp only; rw [HE2.out]; dsimp only; rw [if_pos (by simp)]
            · have HEM3 := Lib.hid hem
              have HE2 := Lib.hid (show expP L5 = .error 3 by simp [HE.out, HD3.out])
              go_wp2_with fail
              refine (must_false _).mono ?_
              rintro e wz ⟨rfl, rfl⟩
              refine ⟨rfl, HA.out, ?_⟩
              simp [HX.out, numTail, HF2.out, HE2.out]
        · have HEM2 := Lib.hid hem
          have HF2 := Lib.hid (show fracP L3 = .error 3 by simp [HF.out, HD2.out])
          go_wp2_with fail
          refine (must_false _).mono ?_
          rintro e wz ⟨rfl, rfl⟩
          refine ⟨rfl, HA.out, ?_⟩
          simp [HX.out, numTail, HF2.out]
    · have HEM := Lib.hid hem
      go_wp2_with fail
      refine (must_false _).mono ?_
      rintro e wz ⟨rfl, rfl⟩
      refine ⟨rfl, HA.out, ?_⟩
      simp [HN.out, HW.out, HD.out]
  · have HX := Lib.hid (show numP L = numTail neg [48] L2 by simp [HN.out, HW.out])
    have HNE := Lib.hid (show ([48] : Bs) ≠ [] by simp)
    have HDG := Lib.hid (show ∀ c ∈ ([48] : Bs), isDig c = true by decide)
    obtain ⟨L3, rfl⟩ : ∃ M, M = L2 := ⟨_, rfl⟩
    have HF := Lib.hid (fracP_take L3)
    go_wp2_with fail
    refine (take_calls HR.out ⟨#[46]⟩ [46] rfl).mono ?_
    rintro e w5 ⟨rfl, hR, hA⟩
    generalize takeB [46] L3 = p at *
    obtain ⟨f, L4⟩ := p
    dsimp only at hR HF ⊢
    have HG := Lib.hid ((hA.block _ (lt_of_heap HG.out) (fun e => hne (e.symm))).trans HG.out)
    have HR := Lib.hid hR
    have HA := Lib.hid (At.trans HA.out hA)
    clear hR hA
    cases f
    · have HF2 := Lib.hid (show fracP L3 = .ok (false, L4) by simp [HF.out])
      have HE := Lib.hid (expP_take L4)
      go_wp2_with fail
      refine (take_calls HR.out ⟨#[101, 69]⟩ [101, 69] rfl).mono ?_
      rintro e w8 ⟨rfl, hR, hA⟩
      generalize takeB [101, 69] L4 = p at *
      obtain ⟨x, L6⟩ := p
      dsimp only at hR HE ⊢
      have HG := Lib.hid ((hA.block _ (lt_of_heap HG.out) (fun e => hne (e.symm))).trans HG.out)
      have HR := Lib.hid hR
      have HA := Lib.hid (At.trans HA.out hA)
      clear hR hA
      cases x
      · have HE2 := Lib.hid (show expP L4 = .ok (false, L6) by simp [HE.out])
        have hl : ([48] : Bs).length ≤ 15 := by decide
        have HL := Lib.hid hl
        have HAT := Lib.hid (fun w => Tryz.strconv_Atoi ⟨([48] : Bs).toArray⟩ (decV [48]) (by rw [sz]; have := HL.out; omega) (atoi_val HDG.out HNE.out) w)
        have hbd := decV_bound _ [48] rfl HDG.out
        have hbd2 : (decV [48]) < 1000000000000000 := by
          have hp : (10 : Int) ^ ([48] : Bs).length ≤ 10 ^ 15 := by exact_mod_cast Nat.pow_le_pow_right (by omega) HL.out
          omega
        have hbd1 := hbd.1
        clear hbd
        have HDV := Lib.hid (show numP L = .ok (if neg then - decV [48] else decV [48], L6) by rw [HX.out]; unfold numTail; rw [HF2.out]; dsimp only; rw [HE2.out]; dsimp only; rw [if_neg (by have := HL.out; simp; try omega)])
        generalize decV [48] = dv at *
        go_wp2_with fail
        refine (HAT.out _).mono ?_
        rintro e w12 ⟨rfl, tq, hw12⟩
        have hB12 : Below _ _ w12 := hw12 ▸ Lib.bytesWorld_below _ _ _
        have HR := Lib.hid (HR.out.below hB12)
        have HG := Lib.hid ((hB12.block _ (lt_of_heap HG.out)).trans HG.out)
        have HA := Lib.hid (At.below HA.out hB12)
        clear hB12 hw12
        cases neg
        · go_wp2_with fail
          refine (Number_calls (dv) _).mono ?_
          rintro e w13 ⟨rfl, hB13⟩
          have HR := Lib.hid (HR.out.below hB13)
          have HA := Lib.hid (At.below HA.out hB13)
          have hg := (hB13.block _ (lt_of_heap HG.out)).trans HG.out
          have HF := Lib.hid (fun (W : World) => num_end (.int .i64 2) (.int .i64 (dv)) (.string ⟨#[]⟩) (.slice none 0 0) (.slice none 0 0) hne (Nat.le_refl _) hg HR.out HA.out W)
          obtain ⟨q0, q1, q2, q3, q4, f0, f1, f2, f3, f4⟩ := five_of hg
          clear hg hB13
          go_wp2
          obtain ⟨hg2, hR2, hA2⟩ := HF.out _ rfl
          refine bodyPost_ret (results_cell_row rfl _ _ w.heap.size 27 (jcs 2 (dv) [] none 0 0 none 0 0) (0, 0) _ rfl hg2 Tryz.underlying27 rfl (by kernel_rfl)) rfl ?_
          rw [HDV.out]
          exact ⟨hA2, rfl, hR2⟩
        · go_wp2_with fail
          refine (Number_calls (-dv) _).mono ?_
          rintro e w13 ⟨rfl, hB13⟩
          have HR := Lib.hid (HR.out.below hB13)
          have HA := Lib.hid (At.below HA.out hB13)
          have hg := (hB13.block _ (lt_of_heap HG.out)).trans HG.out
          have HF := Lib.hid (fun (W : World) => num_end (.int .i64 2) (.int .i64 (-dv)) (.string ⟨#[]⟩) (.slice none 0 0) (.slice none 0 0) hne (Nat.le_refl _) hg HR.out HA.out W)
          obtain ⟨q0, q1, q2, q3, q4, f0, f1, f2, f3, f4⟩ := five_of hg
          clear hg hB13
          go_wp2
          obtain ⟨hg2, hR2, hA2⟩ := HF.out _ rfl
          refine bodyPost_ret (results_cell_row rfl _ _ w.heap.size 27 (jcs 2 (-dv) [] none 0 0 none 0 0) (0, 0) _ rfl hg2 Tryz.underlying27 rfl (by kernel_rfl)) rfl ?_
          rw [HDV.out]
          exact ⟨hA2, rfl, hR2⟩
      · go_wp2_with fail
        refine (take_calls HR.out ⟨#[43, 45]⟩ [43, 45] rfl).mono ?_
        rintro e w9 ⟨rfl, hR, hA⟩
        generalize takeB [43, 45] L6 = p at *
        obtain ⟨sg, L7⟩ := p
        dsimp only at hR HE ⊢
        have HG := Lib.hid ((hA.block _ (lt_of_heap HG.out) (fun e => hne (e.symm))).trans HG.out)
        have HR := Lib.hid hR
        have HA := Lib.hid (At.trans HA.out hA)
        clear hR hA
        have HD3 := Lib.hid (digitsP_eq L7)
        go_wp2_with fail
        refine (many_calls HR.out ⟨#[48, 49, 50, 51, 52, 53, 54, 55, 56, 57]⟩ digs rfl).mono ?_
        rintro e w10 ⟨rfl, hR, hA⟩
        obtain ⟨xd, hxd⟩ : ∃ xd, L7.takeWhile digs.contains = xd := ⟨_, rfl⟩
        obtain ⟨L8, hL8⟩ : ∃ M, L7.dropWhile digs.contains = M := ⟨_, rfl⟩
        rw [hxd, hL8] at HD3
        rw [hxd]
        rw [hL8] at hR
        clear hxd hL8
        have HG := Lib.hid ((hA.block _ (lt_of_heap HG.out) (fun e => hne (e.symm))).trans HG.out)
        have HR := Lib.hid hR
        have HA := Lib.hid (At.trans HA.out hA)
        clear hR hA
        obtain ⟨em3, hem⟩ : ∃ em, xd.isEmpty = em := ⟨_, rfl⟩
        rw [hem] at HD3
        cases em3
        · have HEM3 := Lib.hid hem
          have HE2 := Lib.hid (show expP L4 = .ok (true, L8) by simp [HE.out, HD3.out])
          go_wp2_with fail
          refine (must_true _).mono ?_
          rintro e w11 ⟨rfl, rfl⟩
          clear hem
          go_wp2_with fail
          refine (fails_calls 1 _).mono ?_
          rintro e wz ⟨rfl, rfl⟩
          refine ⟨rfl, HA.out, ?_⟩
          rw [HX.out]; unfold numTail; rw [HF2.out]; dsimp only; rw [HE2.out]; dsimp only; rw [if_pos (by simp)]
        · have HEM3 := Lib.hid hem
          have HE2 := Lib.hid (show expP L4 = .error 3 by simp [HE.out, HD3.out])
          go_wp2_with fail
          refine (must_false _).mono ?_
          rintro e wz ⟨rfl, rfl⟩
          refine ⟨rfl, HA.out, ?_⟩
          simp [HX.out, numTail, HF2.out, HE2.out]
    · have HD2 := Lib.hid (digitsP_eq L4)
      go_wp2_with fail
      refine (many_calls HR.out ⟨#[48, 49, 50, 51, 52, 53, 54, 55, 56, 57]⟩ digs rfl).mono ?_
      rintro e w6 ⟨rfl, hR, hA⟩
      obtain ⟨fd, hfd⟩ : ∃ fd, L4.takeWhile digs.contains = fd := ⟨_, rfl⟩
      obtain ⟨L5, hL5⟩ : ∃ M, L4.dropWhile digs.contains = M := ⟨_, rfl⟩
      rw [hfd, hL5] at HD2
      rw [hfd]
      rw [hL5] at hR
      clear hfd hL5
      have HG := Lib.hid ((hA.block _ (lt_of_heap HG.out) (fun e => hne (e.symm))).trans HG.out)
      have HR := Lib.hid hR
      have HA := Lib.hid (At.trans HA.out hA)
      clear hR hA
      obtain ⟨em2, hem⟩ : ∃ em, fd.isEmpty = em := ⟨_, rfl⟩
      rw [hem] at HD2
      cases em2
      · have HEM2 := Lib.hid hem
        have HF2 := Lib.hid (show fracP L3 = .ok (true, L5) by simp [HF.out, HD2.out])
        go_wp2_with fail
        refine (must_true _).mono ?_
        rintro e w7 ⟨rfl, rfl⟩
        clear hem
        have HE := Lib.hid (expP_take L5)
        go_wp2_with fail
        refine (take_calls HR.out ⟨#[101, 69]⟩ [101, 69] rfl).mono ?_
        rintro e w8 ⟨rfl, hR, hA⟩
        generalize takeB [101, 69] L5 = p at *
        obtain ⟨x, L6⟩ := p
        dsimp only at hR HE ⊢
        have HG := Lib.hid ((hA.block _ (lt_of_heap HG.out) (fun e => hne (e.symm))).trans HG.out)
        have HR := Lib.hid hR
        have HA := Lib.hid (At.trans HA.out hA)
        clear hR hA
        cases x
        · have HE2 := Lib.hid (show expP L5 = .ok (false, L6) by simp [HE.out])
          go_wp2_with fail
          refine (fails_calls 1 _).mono ?_
          rintro e wz ⟨rfl, rfl⟩
          refine ⟨rfl, HA.out, ?_⟩
          rw [HX.out]; unfold numTail; rw [HF2.out]; dsimp only; rw [HE2.out]; dsimp only; rw [if_pos (by simp)]
        · go_wp2_with fail
          refine (take_calls HR.out ⟨#[43, 45]⟩ [43, 45] rfl).mono ?_
          rintro e w9 ⟨rfl, hR, hA⟩
          generalize takeB [43, 45] L6 = p at *
          obtain ⟨sg, L7⟩ := p
          dsimp only at hR HE ⊢
          have HG := Lib.hid ((hA.block _ (lt_of_heap HG.out) (fun e => hne (e.symm))).trans HG.out)
          have HR := Lib.hid hR
          have HA := Lib.hid (At.trans HA.out hA)
          clear hR hA
          have HD3 := Lib.hid (digitsP_eq L7)
          go_wp2_with fail
          refine (many_calls HR.out ⟨#[48, 49, 50, 51, 52, 53, 54, 55, 56, 57]⟩ digs rfl).mono ?_
          rintro e w10 ⟨rfl, hR, hA⟩
          obtain ⟨xd, hxd⟩ : ∃ xd, L7.takeWhile digs.contains = xd := ⟨_, rfl⟩
          obtain ⟨L8, hL8⟩ : ∃ M, L7.dropWhile digs.contains = M := ⟨_, rfl⟩
          rw [hxd, hL8] at HD3
          rw [hxd]
          rw [hL8] at hR
          clear hxd hL8
          have HG := Lib.hid ((hA.block _ (lt_of_heap HG.out) (fun e => hne (e.symm))).trans HG.out)
          have HR := Lib.hid hR
          have HA := Lib.hid (At.trans HA.out hA)
          clear hR hA
          obtain ⟨em3, hem⟩ : ∃ em, xd.isEmpty = em := ⟨_, rfl⟩
          rw [hem] at HD3
          cases em3
          · have HEM3 := Lib.hid hem
            have HE2 := Lib.hid (show expP L5 = .ok (true, L8) by simp [HE.out, HD3.out])
            go_wp2_with fail
            refine (must_true _).mono ?_
            rintro e w11 ⟨rfl, rfl⟩
            clear hem
            go_wp2_with fail
            refine (fails_calls 1 _).mono ?_
            rintro e wz ⟨rfl, rfl⟩
            refine ⟨rfl, HA.out, ?_⟩
            rw [HX.out]; unfold numTail; rw [HF2.out]; dsimp only; rw [HE2.out]; dsimp only; rw [if_pos (by simp)]
          · have HEM3 := Lib.hid hem
            have HE2 := Lib.hid (show expP L5 = .error 3 by simp [HE.out, HD3.out])
            go_wp2_with fail
            refine (must_false _).mono ?_
            rintro e wz ⟨rfl, rfl⟩
            refine ⟨rfl, HA.out, ?_⟩
            simp [HX.out, numTail, HF2.out, HE2.out]
      · have HEM2 := Lib.hid hem
        have HF2 := Lib.hid (show fracP L3 = .error 3 by simp [HF.out, HD2.out])
        go_wp2_with fail
        refine (must_false _).mono ?_
        rintro e wz ⟨rfl, rfl⟩
        refine ⟨rfl, HA.out, ?_⟩
        simp [HX.out, numTail, HF2.out]
end Go.Proofs.YtminegmjklehnaaGreatDoor.J

/-
  The reader of JSON: value. (Printed by wip/tools/gen_json_value.py.)
-/
import Derived.Test.YtminegmjklehnaaGreatDoorJsonN
namespace Go.Proofs.YtminegmjklehnaaGreatDoor.J
open Go.RowKit Go.Proofs.YtminegmjklehnaaGreatDoor.B
open Go.Proofs.YtminegmjklehnaaGreatDoor.M hiding Bs
open Go.Proofs.YtminegmjklehnaaGreatDoor.C (QRow Turn)
set_option linter.unusedVariables false
set_option linter.unusedSimpArgs false

def inn (inner : Option (P Js)) : P Js := inner.getD (fun _ => .error 9)
theorem valueOf_take (inner : Option (P Js)) (L : Bs) : valueOf inner L = if (takeB [110] L).1 then wordP [110, 117, 108, 108] nullJ L else if (takeB [116] L).1 then wordP [116, 114, 117, 101] (leafJ 1 1 []) L else if (takeB [102] L).1 then wordP [102, 97, 108, 115, 101] (leafJ 1 0 []) L
    else if (takeB [34] L).1 then textJ L else if (takeB [91] L).1 then openP inner listP L.tail else if (takeB [123] L).1 then openP inner objP L.tail else numJ L := by
  have hf : ∀ b : Bool, (if b then (true, L) else (false, L)).1 = b := fun b => by cases b <;> rfl
  cases L with
  | nil => rfl
  | cons c M =>
    rw [valueOf_c]
    have h : ∀ q : UInt8, (takeB [q] (c :: M)).1 = (c == q) := fun q => by rw [take34]; cases c == q <;> rfl
    rw [h, h, h, h, h, h]
    rfl
theorem wordP_err {s L : Bs} {j : Js} {d : Int} (h : wordU s L = .error d) : wordP s j L = .error d := by
  unfold wordU at h
  unfold wordP
  split at h
  · cases h
  · rename_i hx; rw [if_neg hx]; cases h; rfl
theorem wordP_ok {s L M : Bs} {j : Js} {u : Unit} (h : wordU s L = .ok (u, M)) : wordP s j L = .ok (j, M) := by
  unfold wordU at h
  unfold wordP
  split at h
  · rename_i hx; rw [if_pos hx]; cases h; rfl
  · cases h
theorem val_end {w w' : World} {rb : Nat} {L : Bs} {deep : Int} {x0 x1 x2 x3 x4 : Value} {x : Js} (y0 y1 y2 y3 y4 : Value) (hrb : rb < w.heap.size) (hg : w'.heap[w.heap.size]? = some (.cells #[x0, x1, x2, x3, x4] 27 (0, 0))) (hR : RB w' rb L deep) (hA : At rb w w') (hV : JsV w' (fun b => w.heap.size < b) x (.agg #[y0, y1, y2, y3, y4])) :
    ∀ W, W = (((((w'.setCell ⟨w.heap.size, 0, none⟩ y0).setCell ⟨w.heap.size, 1, none⟩ y1).setCell ⟨w.heap.size, 2, none⟩ y2).setCell ⟨w.heap.size, 3, none⟩ y3).setCell ⟨w.heap.size, 4, none⟩ y4) →
      W.heap[w.heap.size]? = some (.cells #[y0, y1, y2, y3, y4] 27 (0, 0)) ∧ At rb w W ∧ ValV w W x (.returned (.agg #[y0, y1, y2, y3, y4])) ∧ RB W rb L deep := by
  rintro W rfl
  have hT := set5_turn (fp := fun k => k = w.heap.size) w' w.heap.size rfl y0 y1 y2 y3 y4
  exact ⟨set5 hg _ _ _ _ _, Turn.trans hA hT (fun k hk hlt => by omega), ⟨_, rfl, hV.turn hT (fun b hb hl => ⟨fun e => by omega, Nat.le_of_lt hb⟩)⟩, hR.kept (hT.block _ hR.lt (by omega))⟩
set_option maxRecDepth 100000 in
set_option maxHeartbeats 16000000 in
theorem value_of_calls {inner : Option (P Js)} {deep : Int} (hd0 : 0 ≤ deep) (hd12 : deep ≤ 12) (hin : deep < 12 → VSpec (inn inner) (deep + 1)) (hl : Less (inn inner)) (hsome : ∀ (k : P Js → P Js) (M : Bs), openP inner k M = if deep < 12 then k (inn inner) M else .error 9) : VSpec (valueOf inner) deep := by
  intro w rb L hR0 hT0
  obtain ⟨RES, hRES⟩ : ∃ RES, valueOf inner L = RES := ⟨_, rfl⟩
  rw [hRES]
  have hV := valueOf_take inner L
  rw [hRES] at hV
  have HV := Lib.hid hV
  have hrb := hR0.lt
  have hB1 : Below w.heap.size w (w.alloc (.cells (jcs 0 0 [] none 0 0 none 0 0) 27)) := (Below.refl _ w).alloc (Nat.le_refl _) _
  have HR := Lib.hid (hR0.below hB1)
  have HT := Lib.hid (hT0.at (at_below hB1))
  have HA := Lib.hid (at_below (rb := rb) hB1)
  have HG := Lib.hid (heap_alloc_new w (.cells (jcs 0 0 [] none 0 0 none 0 0) 27))
  have HIN := Lib.hid hin
  have HL := Lib.hid hl
  have HSOME := Lib.hid hsome
  have HCB := Lib.hid (And.intro hd0 hd12)
  have HSZ := Lib.hid (asz w (.cells (jcs 0 0 [] none 0 0 none 0 0) 27))
  clear hRES hV hR0 hT0 hB1 hin hl hsome hd0 hd12
  go_enter Tryz.func29, Tryz.ntmps29
  go_wp2_with fail
  refine (is_calls HR.out ⟨#[110]⟩ [110] rfl).mono ?_
  rintro e w' ⟨rfl, rfl⟩
  cases h110 : (takeB [110] L).1 with
  | false =>
    rw [h110, if_neg (by decide)] at HV
    go_wp2_with fail
    refine (is_calls HR.out ⟨#[116]⟩ [116] rfl).mono ?_
    rintro e w' ⟨rfl, rfl⟩
    cases h116 : (takeB [116] L).1 with
    | false =>
      rw [h116, if_neg (by decide)] at HV
      go_wp2_with fail
      refine (is_calls HR.out ⟨#[102]⟩ [102] rfl).mono ?_
      rintro e w' ⟨rfl, rfl⟩
      cases h102 : (takeB [102] L).1 with
      | false =>
        rw [h102, if_neg (by decide)] at HV
        go_wp2_with fail
        refine (is_calls HR.out ⟨#[34]⟩ [34] rfl).mono ?_
        rintro e w' ⟨rfl, rfl⟩
        cases h34 : (takeB [34] L).1 with
        | false =>
          rw [h34, if_neg (by decide)] at HV
          go_wp2_with fail
          refine (is_calls HR.out ⟨#[91]⟩ [91] rfl).mono ?_
          rintro e w' ⟨rfl, rfl⟩
          cases h91 : (takeB [91] L).1 with
          | false =>
            rw [h91, if_neg (by decide)] at HV
            go_wp2_with fail
            refine (is_calls HR.out ⟨#[123]⟩ [123] rfl).mono ?_
            rintro e w' ⟨rfl, rfl⟩
            cases h123 : (takeB [123] L).1 with
            | false =>
              rw [h123, if_neg (by decide)] at HV
              go_wp2_with fail
              refine (number_calls HR.out).mono ?_
              rintro e w2 ⟨hA, hM⟩
              cases hw : numP L with
              | error d =>
                rw [hw] at hM
                have hM : e = .panicked (erChain d) := hM
                subst hM
                refine ⟨rfl, At.trans HA.out hA, ?_⟩
                rw [HV.out, show numJ L = .error d by unfold numJ; rw [hw]]
              | ok u =>
                obtain ⟨n, M⟩ := u
                rw [hw] at hM
                have hM : e = .returned (jAgg 2 n [] none 0 0 none 0 0) ∧ RB w2 rb M deep := hM
                obtain ⟨rfl, hR⟩ := hM
                have HVR := Lib.hid (HV.out.trans (show numJ L = .ok (leafJ 2 n [], M) by unfold numJ; rw [hw]))
                have HG2 := Lib.hid ((hA.block _ (lt_of_heap HG.out) (by omega)).trans HG.out)
                have HE := Lib.hid (val_end (.int .i64 2) (.int .i64 n) (vs []) (.slice none 0 0) (.slice none 0 0) hrb HG2.out hR (At.trans HA.out hA) (leaf_JsV _ _ 2 n []))
                clear hA hR hw
                obtain ⟨r0, r1, r2, r3, r4, q0, q1, q2, q3, q4⟩ := five_of HG2.out
                go_wp2
                obtain ⟨e1, e2, e3, e4⟩ := HE.out _ rfl
                refine bodyPost_ret (results_cell_row rfl _ _ w.heap.size 27 (jcs 2 n [] none 0 0 none 0 0) (0, 0) _ rfl e1 Tryz.underlying27 rfl (by kernel_rfl)) rfl ?_
                rw [HVR.out]
                exact ⟨e2, e3, e4⟩
            | true =>
              rw [h123, if_pos rfl] at HV
              obtain ⟨K, hK, -⟩ := takeB_true h123
              subst hK
              rw [List.tail_cons, HSOME.out] at HV
              go_wp2_with fail
              refine (object_calls HIN.out HL.out HR.out HT.out HCB.out.1 HCB.out.2).mono ?_
              intro e w2 h6
              rcases ends_val h6 with ⟨d, hp, rfl, hA6⟩ | ⟨x, M, xk, xn, xt, xA, xan, xac, xB, xbn, xbc, hp, rfl, hA6, hx6, hR6⟩
              · refine ⟨rfl, At.trans HA.out hA6, ?_⟩
                rw [HV.out, hp]
              have HVR := Lib.hid (HV.out.trans hp)
              have HG2 := Lib.hid ((hA6.block _ (lt_of_heap HG.out) (by omega)).trans HG.out)
              have HE := Lib.hid (val_end (.int .i64 xk) (.int .i64 xn) (vs xt) (.slice xA xan xac) (.slice xB xbn xbc) hrb HG2.out hR6 (At.trans HA.out hA6) (hx6.keep (fun b hb _ => by have := HSZ.out; omega) (fun _ _ _ h => h) _ _))
              clear hA6 hR6 hx6 hp h6
              obtain ⟨r0, r1, r2, r3, r4, q0, q1, q2, q3, q4⟩ := five_of HG2.out
              go_wp2
              obtain ⟨e1, e2, e3, e4⟩ := HE.out _ rfl
              refine bodyPost_ret (results_cell_row rfl _ _ w.heap.size 27 (jcs xk xn xt xA xan xac xB xbn xbc) (0, 0) _ rfl e1 Tryz.underlying27 rfl (by kernel_rfl)) rfl ?_
              rw [HVR.out]
              exact ⟨e2, e3, e4⟩
          | true =>
            rw [h91, if_pos rfl] at HV
            obtain ⟨K, hK, -⟩ := takeB_true h91
            subst hK
            rw [List.tail_cons, HSOME.out] at HV
            go_wp2_with fail
            refine (list_calls HIN.out HL.out HR.out HT.out HCB.out.1 HCB.out.2).mono ?_
            intro e w2 h6
            rcases ends_val h6 with ⟨d, hp, rfl, hA6⟩ | ⟨x, M, xk, xn, xt, xA, xan, xac, xB, xbn, xbc, hp, rfl, hA6, hx6, hR6⟩
            · refine ⟨rfl, At.trans HA.out hA6, ?_⟩
              rw [HV.out, hp]
            have HVR := Lib.hid (HV.out.trans hp)
            have HG2 := Lib.hid ((hA6.block _ (lt_of_heap HG.out) (by omega)).trans HG.out)
            have HE := Lib.hid (val_end (.int .i64 xk) (.int .i64 xn) (vs xt) (.slice xA xan xac) (.slice xB xbn xbc) hrb HG2.out hR6 (At.trans HA.out hA6) (hx6.keep (fun b hb _ => by have := HSZ.out; omega) (fun _ _ _ h => h) _ _))
            clear hA6 hR6 hx6 hp h6
            obtain ⟨r0, r1, r2, r3, r4, q0, q1, q2, q3, q4⟩ := five_of HG2.out
            go_wp2
            obtain ⟨e1, e2, e3, e4⟩ := HE.out _ rfl
            refine bodyPost_ret (results_cell_row rfl _ _ w.heap.size 27 (jcs xk xn xt xA xan xac xB xbn xbc) (0, 0) _ rfl e1 Tryz.underlying27 rfl (by kernel_rfl)) rfl ?_
            rw [HVR.out]
            exact ⟨e2, e3, e4⟩
        | true =>
          rw [h34, if_pos rfl] at HV
          go_wp2_with fail
          refine (text_calls HR.out HT.out).mono ?_
          rintro e w2 ⟨hA, hM⟩
          cases hw : textP L with
          | error d =>
            rw [hw] at hM
            have hM : e = .panicked (erChain d) := hM
            subst hM
            refine ⟨rfl, At.trans HA.out hA, ?_⟩
            rw [HV.out, show textJ L = .error d by unfold textJ; rw [hw]]
          | ok u =>
            obtain ⟨t, M⟩ := u
            rw [hw] at hM
            have hM : e = .returned (vs t) ∧ RB w2 rb M deep := hM
            obtain ⟨rfl, hR⟩ := hM
            have HVR := Lib.hid (HV.out.trans (show textJ L = .ok (leafJ 3 0 t, M) by unfold textJ; rw [hw]))
            have HG2 := Lib.hid ((hA.block _ (lt_of_heap HG.out) (by omega)).trans HG.out)
            have HR2 := Lib.hid hR
            have HA2 := Lib.hid (At.trans HA.out hA)
            clear hA hR hw
            go_wp2_with fail
            refine (Text_calls t _).mono ?_
            rintro e w3 ⟨rfl, hb⟩
            have HG3 := Lib.hid ((hb.block _ (lt_of_heap HG2.out)).trans HG2.out)
            have HE := Lib.hid (val_end (.int .i64 3) (.int .i64 0) (vs t) (.slice none 0 0) (.slice none 0 0) hrb HG3.out (HR2.out.below hb) (At.trans HA2.out (at_below hb)) (leaf_JsV _ _ 3 0 t))
            clear hb
            obtain ⟨r0, r1, r2, r3, r4, q0, q1, q2, q3, q4⟩ := five_of HG3.out
            go_wp2
            obtain ⟨e1, e2, e3, e4⟩ := HE.out _ rfl
            refine bodyPost_ret (results_cell_row rfl _ _ w.heap.size 27 (jcs 3 0 t none 0 0 none 0 0) (0, 0) _ rfl e1 Tryz.underlying27 rfl (by kernel_rfl)) rfl ?_
            rw [HVR.out]
            exact ⟨e2, e3, e4⟩
      | true =>
        rw [h102, if_pos rfl] at HV
        go_wp2_with fail
        refine (word_calls HR.out ⟨#[102, 97, 108, 115, 101]⟩ [102, 97, 108, 115, 101] rfl (by decide)).mono ?_
        rintro e w2 ⟨hA, hM⟩
        cases hw : wordU [102, 97, 108, 115, 101] L with
        | error d =>
          rw [hw] at hM
          have hM : e = .panicked (erChain d) := hM
          subst hM
          refine ⟨rfl, At.trans HA.out hA, ?_⟩
          rw [HV.out, wordP_err hw]
        | ok u =>
          obtain ⟨u, M⟩ := u
          rw [hw] at hM
          have hM : e = .returned (.tuple #[]) ∧ RB w2 rb M deep := hM
          obtain ⟨rfl, hR⟩ := hM
          have hA2 := At.trans HA.out hA
          have HVR := Lib.hid (HV.out.trans (wordP_ok hw))
          have HG2 := Lib.hid ((hA.block _ (lt_of_heap HG.out) (by omega)).trans HG.out)
          have HR2 := Lib.hid hR
          have HA2 := Lib.hid hA2
          clear hA hR hA2 hw
          go_wp2_with fail
          refine (Bool_calls false _).mono ?_
          rintro e w3 ⟨rfl, hb⟩
          have HG3 := Lib.hid ((hb.block _ (lt_of_heap HG2.out)).trans HG2.out)
          have HE := Lib.hid (val_end (.int .i64 1) (.int .i64 0) (vs []) (.slice none 0 0) (.slice none 0 0) hrb HG3.out (HR2.out.below hb) (At.trans HA2.out (at_below hb)) (leaf_JsV _ _ 1 0 []))
          clear hb
          obtain ⟨r0, r1, r2, r3, r4, q0, q1, q2, q3, q4⟩ := five_of HG3.out
          go_wp2
          obtain ⟨e1, e2, e3, e4⟩ := HE.out _ rfl
          refine bodyPost_ret (results_cell_row rfl _ _ w.heap.size 27 (jcs 1 0 [] none 0 0 none 0 0) (0, 0) _ rfl e1 Tryz.underlying27 rfl (by kernel_rfl)) rfl ?_
          rw [HVR.out]
          exact ⟨e2, e3, e4⟩
    | true =>
      rw [h116, if_pos rfl] at HV
      go_wp2_with fail
      refine (word_calls HR.out ⟨#[116, 114, 117, 101]⟩ [116, 114, 117, 101] rfl (by decide)).mono ?_
      rintro e w2 ⟨hA, hM⟩
      cases hw : wordU [116, 114, 117, 101] L with
      | error d =>
        rw [hw] at hM
        have hM : e = .panicked (erChain d) := hM
        subst hM
        refine ⟨rfl, At.trans HA.out hA, ?_⟩
        rw [HV.out, wordP_err hw]
      | ok u =>
        obtain ⟨u, M⟩ := u
        rw [hw] at hM
        have hM : e = .returned (.tuple #[]) ∧ RB w2 rb M deep := hM
        obtain ⟨rfl, hR⟩ := hM
        have hA2 := At.trans HA.out hA
        have HVR := Lib.hid (HV.out.trans (wordP_ok hw))
        have HG2 := Lib.hid ((hA.block _ (lt_of_heap HG.out) (by omega)).trans HG.out)
        have HR2 := Lib.hid hR
        have HA2 := Lib.hid hA2
        clear hA hR hA2 hw
        go_wp2_with fail
        refine (Bool_calls true _).mono ?_
        rintro e w3 ⟨rfl, hb⟩
        have HG3 := Lib.hid ((hb.block _ (lt_of_heap HG2.out)).trans HG2.out)
        have HE := Lib.hid (val_end (.int .i64 1) (.int .i64 1) (vs []) (.slice none 0 0) (.slice none 0 0) hrb HG3.out (HR2.out.below hb) (At.trans HA2.out (at_below hb)) (leaf_JsV _ _ 1 1 []))
        clear hb
        obtain ⟨r0, r1, r2, r3, r4, q0, q1, q2, q3, q4⟩ := five_of HG3.out
        go_wp2
        obtain ⟨e1, e2, e3, e4⟩ := HE.out _ rfl
        refine bodyPost_ret (results_cell_row rfl _ _ w.heap.size 27 (jcs 1 1 [] none 0 0 none 0 0) (0, 0) _ rfl e1 Tryz.underlying27 rfl (by kernel_rfl)) rfl ?_
        rw [HVR.out]
        exact ⟨e2, e3, e4⟩
  | true =>
    rw [h110, if_pos rfl] at HV
    go_wp2_with fail
    refine (word_calls HR.out ⟨#[110, 117, 108, 108]⟩ [110, 117, 108, 108] rfl (by decide)).mono ?_
    rintro e w2 ⟨hA, hM⟩
    cases hw : wordU [110, 117, 108, 108] L with
    | error d =>
      rw [hw] at hM
      have hM : e = .panicked (erChain d) := hM
      subst hM
      refine ⟨rfl, At.trans HA.out hA, ?_⟩
      rw [HV.out, wordP_err hw]
    | ok u =>
      obtain ⟨u, M⟩ := u
      rw [hw] at hM
      have hM : e = .returned (.tuple #[]) ∧ RB w2 rb M deep := hM
      obtain ⟨rfl, hR⟩ := hM
      have hA2 := At.trans HA.out hA
      have HVR := Lib.hid (HV.out.trans (wordP_ok hw))
      have HG2 := Lib.hid ((hA.block _ (lt_of_heap HG.out) (by omega)).trans HG.out)
      have HE := Lib.hid (val_end (.int .i64 0) (.int .i64 0) (vs []) (.slice none 0 0) (.slice none 0 0) hrb HG2.out hR hA2 (leaf_JsV _ _ 0 0 []))
      clear hA hR hA2 hw
      obtain ⟨r0, r1, r2, r3, r4, q0, q1, q2, q3, q4⟩ := five_of HG2.out
      go_wp2
      obtain ⟨e1, e2, e3, e4⟩ := HE.out _ rfl
      refine bodyPost_ret (results_cell_row rfl _ _ w.heap.size 27 (jcs 0 0 [] none 0 0 none 0 0) (0, 0) _ rfl e1 Tryz.underlying27 rfl (by kernel_rfl)) rfl ?_
      rw [HVR.out]
      exact ⟨e2, e3, e4⟩
theorem value_calls : ∀ d : Nat, d ≤ 12 → VSpec (valueP d) (12 - (d : Int))
  | 0, _ => value_of_calls (inner := none) (by omega) (by omega) (fun h => by omega) (fun L x M h => by cases h) (fun k M => by rw [if_neg (by omega)]; rfl)
  | d + 1, h => value_of_calls (inner := some (valueP d)) (by omega) (by omega) (fun _ => by
      have := value_calls d (by omega)
      rw [show (12 : Int) - ((d + 1 : Nat) : Int) + 1 = 12 - (d : Int) by omega]
      exact this) (value_less d) (fun k M => by rw [if_pos (by omega)]; rfl)
end Go.Proofs.YtminegmjklehnaaGreatDoor.J

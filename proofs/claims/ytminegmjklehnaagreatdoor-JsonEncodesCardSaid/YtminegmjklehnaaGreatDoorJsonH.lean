/-
  The reader of JSON: inside, for each of the two closures. (Printed by wip/tools/gen_json_inside.py.)
-/
import Derived.Test.YtminegmjklehnaaGreatDoorJsonG
namespace Go.Proofs.YtminegmjklehnaaGreatDoor.J
open Go.RowKit Go.Proofs.YtminegmjklehnaaGreatDoor.B
open Go.Proofs.YtminegmjklehnaaGreatDoor.M hiding Bs
open Go.Proofs.YtminegmjklehnaaGreatDoor.C (QRow Turn)
set_option linter.unusedVariables false
set_option linter.unusedSimpArgs false

theorem sp_le (L : Bs) : (sp L).length ≤ L.length := List.Sublist.length_le (List.dropWhile_sublist _)
theorem dw_idem (p : UInt8 → Bool) : ∀ L : Bs, (L.dropWhile p).dropWhile p = L.dropWhile p
  | [] => rfl
  | c :: L => by
    rw [List.dropWhile_cons]
    cases h : p c with
    | true => rw [if_pos rfl]; exact dw_idem p L
    | false => rw [if_neg (by decide), List.dropWhile_cons, h]; rfl
theorem sp_sp (L : Bs) : sp (sp L) = sp L := dw_idem isSp L
def Steps {σ : Type} (one : σ → P σ) (size : σ → Nat) : Prop := ∀ a L a' L', one a L = .ok (a', L') → size a' + L'.length ≤ size a + L.length ∧ L'.length < L.length
def tailP {σ : Type} (endc : UInt8) (a : σ) : Bs → Except Int (σ × Bs)
  | [] => .error 3
  | c :: K => if c == endc then .ok (a, K) else .error 3
theorem insideGo_err {σ : Type} {one : σ → P σ} {endc : UInt8} {f : Nat} {a : σ} {L : Bs} {d : Int} (h : one a L = .error d) : insideGo one endc (f + 1) a L = .error d := by rw [insideGo, h]
theorem insideGo_more {σ : Type} {one : σ → P σ} {endc : UInt8} {f : Nat} {a a' : σ} {L M K : Bs} (h : one a L = .ok (a', M)) (hm : sp M = 44 :: K) : insideGo one endc (f + 1) a L = insideGo one endc f a' (sp K) := by
  rw [insideGo, h]
  dsimp only
  rw [hm]
  rfl
theorem insideGo_last {σ : Type} {one : σ → P σ} {endc : UInt8} {f : Nat} {a a' : σ} {L M : Bs} (h : one a L = .ok (a', M)) (hm : (takeB [44] (sp M)).1 = false) : insideGo one endc (f + 1) a L = tailP endc a' (sp M) := by
  rw [insideGo, h]
  dsimp only
  cases hs : sp M with
  | nil => rfl
  | cons c K =>
    rw [hs, take34] at hm
    cases hc : c == 44 with
    | true => rw [hc] at hm; cases hm
    | false => dsimp only; rw [hc]; rfl
theorem insideGo_fuel {σ : Type} {one : σ → P σ} {size : σ → Nat} (hs : Steps one size) {endc : UInt8} : ∀ (f g : Nat) (a : σ) (L : Bs), L.length < f → L.length < g → insideGo one endc f a L = insideGo one endc g a L
  | 0, _, _, _, h, _ => by omega
  | _ + 1, 0, _, _, _, h => by omega
  | f + 1, g + 1, a, L, h1, h2 => by
    rw [insideGo, insideGo]
    cases ho : one a L with
    | error d => rfl
    | ok q =>
      obtain ⟨a', M⟩ := q
      have h3 := (hs _ _ _ _ ho).2
      have h4 := sp_le M
      dsimp only
      cases hm : sp M with
      | nil => rfl
      | cons c K =>
        rw [hm] at h4
        have h5 := sp_le K
        simp at h4
        dsimp only
        split
        · exact insideGo_fuel hs f g _ _ (by omega) (by omega)
        · rfl
theorem insideP_go {σ : Type} {one : σ → P σ} {size : σ → Nat} (hs : Steps one size) {endc : UInt8} {a : σ} {L : Bs} (h : (takeB [endc] (sp L)).1 = false) : insideP one endc a L = insideGo one endc ((sp L).length + 1) a (sp L) := by
  unfold insideP
  cases hm : sp L with
  | nil => rfl
  | cons c K =>
    rw [hm, take34] at h
    cases hc : c == endc with
    | true => rw [hc] at h; cases h
    | false =>
      dsimp only
      rw [hc, if_neg (by decide)]
      rfl
theorem insideP_end {σ : Type} {one : σ → P σ} {endc : UInt8} {a : σ} {L K : Bs} (h : takeB [endc] (sp L) = (true, K)) : insideP one endc a L = .ok (a, K) := by
  unfold insideP
  cases hm : sp L with
  | nil => rw [hm] at h; cases h
  | cons c M =>
    rw [hm, take34] at h
    cases hc : c == endc with
    | true => rw [hc] at h; cases h; dsimp only; rw [hc]; rfl
    | false => rw [hc] at h; cases h
theorem takeB_false {q : Bs} {L : Bs} (h : (takeB q L).1 = false) : takeB q L = (false, L) := by
  cases L with
  | nil => rfl
  | cons c L =>
    rw [takeB_cons] at h ⊢
    split at h
    · cases h
    · rename_i hx; rw [if_neg hx]
theorem takeB_true {q : UInt8} {L : Bs} (h : (takeB [q] L).1 = true) : ∃ K, L = q :: K ∧ takeB [q] L = (true, K) := by
  cases L with
  | nil => cases h
  | cons c L =>
    rw [take34] at h ⊢
    cases hc : c == q with
    | true => exact ⟨L, by rw [eq_of_beq hc], rfl⟩
    | false => rw [hc] at h; cases h
theorem tail_take {σ : Type} (endc : UInt8) (a : σ) (L : Bs) : tailP endc a L = if (takeB [endc] L).1 then .ok (a, (takeB [endc] L).2) else .error 3 := by
  cases L with
  | nil => rfl
  | cons c K =>
    rw [take34]
    show (if c == endc then Except.ok (a, K) else Except.error 3) = _
    cases hc : c == endc <;> rfl
theorem tabs_turn {rb B0 : Nat} (hrb : rb < B0) {w w' : World} (h : Tabs rb w) (hT : Turn (fun k => k = rb ∨ B0 ≤ k) w w') : Tabs rb w' := by
  obtain ⟨⟨h1, h2⟩, h3, h4⟩ := h
  have key : ∀ (g o : Nat) (v : Value), g < rb → w.cell? ⟨g, o, none⟩ = some v → w'.cell? ⟨g, o, none⟩ = some v := by
    intro g o v hg hc
    have hl := World.block_lt_of_cell? w _ hc
    rw [cell_congr (hT.block g hl (by omega))]
    exact hc
  exact ⟨⟨fun c hc => key _ _ _ h3 (h1 c hc), fun i hi => ⟨key _ _ _ h4 (h2 i hi).1, key _ _ _ h4 (h2 i hi).2⟩⟩, h3, h4⟩
set_option maxRecDepth 100000 in
set_option maxHeartbeats 8000000 in
theorem inside_list {σ : Type} {one : σ → P σ} {S : σ → World → Prop} {size : σ → Nat} {B0 rb a1 a2 : Nat} {deep : Int} {endc openc : UInt8} (hS : ∀ a w w', S a w → At rb w w' → S a w') (hsz : Steps one size)
    (hone : deep < 12 → ∀ a w L, S a w → RB w rb L (deep + 1) → Tabs rb w → size a ≤ 1000000000 → Calls Tryz.prog 72 #[.pointer (some ⟨a1, 0, none⟩), .pointer (some ⟨a2, 0, none⟩)] w (OneEnds B0 rb (deep + 1) w S (one a L)))
    (hrb : rb < B0) {a : σ} {w : World} {L : Bs} (h0 : size a + L.length ≤ 1000000000) (hSa : S a w) (hR : RB w rb (openc :: L) deep) (hT : Tabs rb w) (hd0 : 0 ≤ deep) (hd12 : deep ≤ 12) :
    Calls Tryz.prog 71 #[.pointer (some ⟨rb, 0, none⟩), .string ⟨#[openc]⟩, .string ⟨#[endc]⟩, .func (.func 72) #[] #[.pointer (some ⟨a1, 0, none⟩), .pointer (some ⟨a2, 0, none⟩)]] w
      (OneEnds B0 rb deep w S (if deep < 12 then insideP one endc a L else .error 9)) := by
  have HTK := Lib.hid (take_calls hR ⟨#[openc]⟩ [openc] rfl)
  rw [take34, if_pos (by simp)] at HTK
  have HS := Lib.hid hS
  have HSZ := Lib.hid hsz
  have HSA := Lib.hid hSa
  have HT := Lib.hid hT
  have HRL := Lib.hid hR.lt
  obtain ⟨RR, hRR⟩ : ∃ RR, (if deep < 12 then insideP one endc a L else .error 9) = RR := ⟨_, rfl⟩
  rw [hRR]
  have HRR := Lib.hid hRR
  clear hRR hS hsz hSa hR hT
  by_cases hdeep : deep < 12
  rotate_left
  · have hd : deep = 12 := by omega
    subst hd
    have HE := Lib.hid (show RR = .error 9 from HRR.out.symm)
    clear hdeep hone
    go_enter Tryz.func71, Tryz.ntmps71
    go_wp2_with fail
    refine HTK.out.mono ?_
    rintro e w1 ⟨rfl, hR, hA⟩
    obtain ⟨g0, g1, f0, f1⟩ := two_of hR.heap
    have HA1 := Lib.hid (At.trans hA (at_set w1 rb 1 (.int .i64 13)))
    clear hR hA
    go_wp2_with fail
    refine (fails_calls 9 _).mono ?_
    rintro e w2 ⟨rfl, rfl⟩
    refine ⟨rfl, turn_at HA1.out, ?_⟩
    rw [HE.out]
  have HONE := Lib.hid (hone hdeep)
  rw [if_pos hdeep] at HRR
  clear hone
  go_enter Tryz.func71, Tryz.ntmps71
  go_wp2_with fail
  refine HTK.out.mono ?_
  rintro e w1 ⟨rfl, hR, hA⟩
  obtain ⟨g0, g1, f0, f1⟩ := two_of hR.heap
  have HR1 := Lib.hid (hR.setDeep (deep + 1))
  have HA1 := Lib.hid (At.trans hA (at_set w1 rb 1 (.int .i64 (deep + 1))))
  clear hR hA
  go_wp2_with fail
  refine (space_calls HR1.out).mono ?_
  rintro e w2 ⟨rfl, hR, hA⟩
  have HR2 := Lib.hid hR
  have HA2 := Lib.hid (At.trans HA1.out hA)
  clear hR hA g0 g1 f0 f1
  have HTE := Lib.hid (take_calls HR2.out ⟨#[endc]⟩ [endc] rfl)
  cases ht : (takeB [endc] (sp L)).1 with
  | true =>
    obtain ⟨K, hK1, hK2⟩ := takeB_true ht
    have HE := Lib.hid (show RR = .ok (a, K) by rw [← HRR.out]; exact insideP_end hK2)
    rw [hK2] at HTE
    clear ht hK1 hK2
    go_wp2_with fail
    refine HTE.out.mono ?_
    rintro e w3 ⟨rfl, hR, hA⟩
    obtain ⟨g0, g1, f0, f1⟩ := two_of hR.heap
    have HR3 := Lib.hid (hR.setDeep deep)
    have HA3 := Lib.hid (At.trans (At.trans HA2.out hA) (at_set w3 rb 1 (.int .i64 deep)))
    clear hR hA
    go_wp2
    refine bodyPost_end (results_none rfl _ _ _) rfl ?_
    refine ⟨turn_at HA3.out, ?_⟩
    rw [HE.out]
    exact ⟨rfl, HS.out _ _ _ HSA.out HA3.out, HR3.out⟩
  | false =>
    have hf := takeB_false ht
    have HE := Lib.hid (show RR = insideGo one endc ((sp L).length + 1) a (sp L) by rw [← HRR.out]; exact insideP_go HSZ.out ht)
    rw [hf] at HTE
    have hspl := sp_le L
    clear ht hf
    go_wp2_with fail
    refine HTE.out.mono ?_
    rintro e w3 ⟨rfl, hR, hA⟩
    have HR3 := Lib.hid hR
    have HA3 := Lib.hid (At.trans HA2.out hA)
    clear hR hA
    go_wp2_with fail
    go_loopg [8] ((sp L).length * 2 + 1) (fun k v8 wr => ∃ b a' L1, v8 = .bool b ∧ k = L1.length * 2 + (if b then 1 else 0) ∧ Hid (S a' wr) ∧ Hid (RB wr rb L1 (deep + 1)) ∧ Hid (Turn (fun k => k = rb ∨ B0 ≤ k) w wr) ∧ Hid (Tabs rb wr) ∧ size a' + L1.length ≤ 1000000000 ∧
      Hid (b = true → RR = insideGo one endc ((sp L1).length + 1) a' (sp L1)) ∧ Hid (b = false → RR = tailP endc a' L1))
    case atStart => exact ⟨true, a, sp L, rfl, by simp, Lib.hid (HS.out _ _ _ HSA.out HA3.out), HR3, Lib.hid (turn_at HA3.out), Lib.hid (HT.out.at HA3.out), by omega, Lib.hid (fun _ => by rw [sp_sp]; exact HE.out), Lib.hid (fun h => by cases h)⟩
    case round =>
      clear HR3 HA3 HE HTE HR2 HA2 HR1 HA1 HTK hspl
      obtain ⟨b, a', L1, rfl, hk, HSW, HR, HTU, HTB, hsl, HB1, HB2⟩ := hrel
      cases b with
      | false =>
        have HE := Lib.hid (HB2.out rfl)
        have HTT := Lib.hid (tail_take endc a' L1)
        have HTE := Lib.hid (take_calls HR.out ⟨#[endc]⟩ [endc] rfl)
        generalize takeB [endc] L1 = q at *
        obtain ⟨tb, K⟩ := q
        dsimp only at HTT HTE
        clear hk
        cases tb with
        | true =>
          go_wp2_with fail
          refine HTE.out.mono ?_
          rintro e w4 ⟨rfl, hR, hA⟩
          obtain ⟨g0, g1, f0, f1⟩ := two_of hR.heap
          have HR4 := Lib.hid (hR.setDeep deep)
          have hA4 := At.trans hA (at_set w4 rb 1 (.int .i64 deep))
          have HA4 := Lib.hid hA4
          clear hR hA hA4
          go_wp2_with fail
          refine (must_true _).mono ?_
          rintro e w5 ⟨rfl, rfl⟩
          go_wp2
          refine bodyPost_end (results_none rfl _ _ _) rfl ?_
          refine ⟨Turn.trans HTU.out HA4.out (fun k hk _ => .inl hk), ?_⟩
          rw [HE.out, HTT.out]
          exact ⟨rfl, HS.out _ _ _ HSW.out HA4.out, HR4.out⟩
        | false =>
          go_wp2_with fail
          refine HTE.out.mono ?_
          rintro e w4 ⟨rfl, hR, hA⟩
          have HA4 := Lib.hid hA
          clear hR hA
          go_wp2_with fail
          refine (must_false _).mono ?_
          rintro e w5 ⟨rfl, rfl⟩
          refine ⟨rfl, Turn.trans HTU.out HA4.out (fun k hk _ => .inl hk), ?_⟩
          rw [HE.out, HTT.out]
          rfl
      | true =>
        have HE := Lib.hid (HB1.out rfl)
        have hsp := sp_le L1
        go_wp2_with fail
        refine (space_calls HR.out).mono ?_
        rintro e w4 ⟨rfl, hR, hA⟩
        have HR4 := Lib.hid hR
        have HS4 := Lib.hid (HS.out _ _ _ HSW.out hA)
        have HT4 := Lib.hid (HTB.out.at hA)
        have HU4 := Lib.hid (Turn.trans HTU.out hA (fun k hk _ => .inl hk))
        clear hR hA
        go_wp2_with fail
        refine (HONE.out a' w4 (sp L1) HS4.out HR4.out HT4.out (by omega)).mono ?_
        rintro e w5 ⟨hU5, hM⟩
        have HU5 := Lib.hid (Turn.trans HU4.out hU5 (fun k hk _ => hk))
        cases ho : one a' (sp L1) with
        | error d =>
          rw [ho] at hM
          have hM : e = .panicked (erChain d) := hM
          subst hM
          refine ⟨rfl, HU5.out, ?_⟩
          rw [HE.out, insideGo_err ho]
        | ok q =>
          obtain ⟨a5, M⟩ := q
          rw [ho] at hM
          have hM : e = .returned (.tuple #[]) ∧ S a5 w5 ∧ RB w5 rb M (deep + 1) := hM
          obtain ⟨rfl, hS5, hR5⟩ := hM
          have hst := HSZ.out _ _ _ _ ho
          have HO := Lib.hid ho
          have HS5 := Lib.hid hS5
          have HR5 := Lib.hid hR5
          have HT5 : Hid (Tabs rb w5) := Lib.hid (tabs_turn hrb HT4.out hU5)
          have hspm := sp_le M
          clear hM hU5 hS5 hR5 ho
          go_wp2_with fail
          refine (space_calls HR5.out).mono ?_
          rintro e w6 ⟨rfl, hR, hA⟩
          have HR6 := Lib.hid hR
          have HS6 := Lib.hid (HS.out _ _ _ HS5.out hA)
          have HT6 := Lib.hid (HT5.out.at hA)
          have HU6 := Lib.hid (Turn.trans HU5.out hA (fun k hk _ => .inl hk))
          clear hR hA
          go_wp2_with fail
          refine (take_calls HR6.out ⟨#[44]⟩ [44] rfl).mono ?_
          rintro e w7 ⟨rfl, hR, hA⟩
          have HS7 := Lib.hid (HS.out _ _ _ HS6.out hA)
          have HT7 := Lib.hid (HT6.out.at hA)
          have HU7 := Lib.hid (Turn.trans HU6.out hA (fun k hk _ => .inl hk))
          cases hc : (takeB [44] (sp M)).1 with
          | true =>
            obtain ⟨K, hK1, hK2⟩ := takeB_true hc
            rw [hK2] at hR
            have HR7 := Lib.hid hR
            have hspk := sp_le K
            rw [hK1] at hspm
            have HL := Lib.hid (insideGo_more (endc := endc) (f := (sp L1).length) HO.out hK1)
            have HLF := Lib.hid (insideGo_fuel HSZ.out (endc := endc) (sp L1).length ((sp K).length + 1) a5 (sp K) (by simp at hspm; omega) (by omega))
            clear hR hA hK1 hK2 hc
            go_wp2
            go_roundg (K.length * 2 + 1)
            case measure => simp at hspm hk; omega
            case rel => exact ⟨true, a5, K, rfl, by simp, HS7, HR7, HU7, HT7, by simp at hspm; omega, Lib.hid (fun _ => by rw [HE.out, HL.out, HLF.out]), Lib.hid (fun h => by cases h)⟩
          | false =>
            have hK2 := takeB_false hc
            rw [hK2] at hR
            have HR7 := Lib.hid hR
            have HL := Lib.hid (insideGo_last (endc := endc) (f := (sp L1).length) HO.out hc)
            clear hR hA hK2 hc
            go_wp2
            go_roundg ((sp M).length * 2)
            case measure => simp at hk; omega
            case rel => exact ⟨false, a5, sp M, rfl, by simp, HS7, HR7, HU7, HT7, by omega, Lib.hid (fun h => by cases h), Lib.hid (fun _ => by rw [HE.out, HL.out])⟩
set_option maxRecDepth 100000 in
set_option maxHeartbeats 8000000 in
theorem inside_object {σ : Type} {one : σ → P σ} {S : σ → World → Prop} {size : σ → Nat} {B0 rb a1 a2 : Nat} {deep : Int} {endc openc : UInt8} (hS : ∀ a w w', S a w → At rb w w' → S a w') (hsz : Steps one size)
    (hone : deep < 12 → ∀ a w L, S a w → RB w rb L (deep + 1) → Tabs rb w → size a ≤ 1000000000 → Calls Tryz.prog 73 #[.pointer (some ⟨a1, 0, none⟩), .pointer (some ⟨a2, 0, none⟩)] w (OneEnds B0 rb (deep + 1) w S (one a L)))
    (hrb : rb < B0) {a : σ} {w : World} {L : Bs} (h0 : size a + L.length ≤ 1000000000) (hSa : S a w) (hR : RB w rb (openc :: L) deep) (hT : Tabs rb w) (hd0 : 0 ≤ deep) (hd12 : deep ≤ 12) :
    Calls Tryz.prog 71 #[.pointer (some ⟨rb, 0, none⟩), .string ⟨#[openc]⟩, .string ⟨#[endc]⟩, .func (.func 73) #[] #[.pointer (some ⟨a1, 0, none⟩), .pointer (some ⟨a2, 0, none⟩)]] w
      (OneEnds B0 rb deep w S (if deep < 12 then insideP one endc a L else .error 9)) := by
  have HTK := Lib.hid (take_calls hR ⟨#[openc]⟩ [openc] rfl)
  rw [take34, if_pos (by simp)] at HTK
  have HS := Lib.hid hS
  have HSZ := Lib.hid hsz
  have HSA := Lib.hid hSa
  have HT := Lib.hid hT
  have HRL := Lib.hid hR.lt
  obtain ⟨RR, hRR⟩ : ∃ RR, (if deep < 12 then insideP one endc a L else .error 9) = RR := ⟨_, rfl⟩
  rw [hRR]
  have HRR := Lib.hid hRR
  clear hRR hS hsz hSa hR hT
  by_cases hdeep : deep < 12
  rotate_left
  · have hd : deep = 12 := by omega
    subst hd
    have HE := Lib.hid (show RR = .error 9 from HRR.out.symm)
    clear hdeep hone
    go_enter Tryz.func71, Tryz.ntmps71
    go_wp2_with fail
    refine HTK.out.mono ?_
    rintro e w1 ⟨rfl, hR, hA⟩
    obtain ⟨g0, g1, f0, f1⟩ := two_of hR.heap
    have HA1 := Lib.hid (At.trans hA (at_set w1 rb 1 (.int .i64 13)))
    clear hR hA
    go_wp2_with fail
    refine (fails_calls 9 _).mono ?_
    rintro e w2 ⟨rfl, rfl⟩
    refine ⟨rfl, turn_at HA1.out, ?_⟩
    rw [HE.out]
  have HONE := Lib.hid (hone hdeep)
  rw [if_pos hdeep] at HRR
  clear hone
  go_enter Tryz.func71, Tryz.ntmps71
  go_wp2_with fail
  refine HTK.out.mono ?_
  rintro e w1 ⟨rfl, hR, hA⟩
  obtain ⟨g0, g1, f0, f1⟩ := two_of hR.heap
  have HR1 := Lib.hid (hR.setDeep (deep + 1))
  have HA1 := Lib.hid (At.trans hA (at_set w1 rb 1 (.int .i64 (deep + 1))))
  clear hR hA
  go_wp2_with fail
  refine (space_calls HR1.out).mono ?_
  rintro e w2 ⟨rfl, hR, hA⟩
  have HR2 := Lib.hid hR
  have HA2 := Lib.hid (At.trans HA1.out hA)
  clear hR hA g0 g1 f0 f1
  have HTE := Lib.hid (take_calls HR2.out ⟨#[endc]⟩ [endc] rfl)
  cases ht : (takeB [endc] (sp L)).1 with
  | true =>
    obtain ⟨K, hK1, hK2⟩ := takeB_true ht
    have HE := Lib.hid (show RR = .ok (a, K) by rw [← HRR.out]; exact insideP_end hK2)
    rw [hK2] at HTE
    clear ht hK1 hK2
    go_wp2_with fail
    refine HTE.out.mono ?_
    rintro e w3 ⟨rfl, hR, hA⟩
    obtain ⟨g0, g1, f0, f1⟩ := two_of hR.heap
    have HR3 := Lib.hid (hR.setDeep deep)
    have HA3 := Lib.hid (At.trans (At.trans HA2.out hA) (at_set w3 rb 1 (.int .i64 deep)))
    clear hR hA
    go_wp2
    refine bodyPost_end (results_none rfl _ _ _) rfl ?_
    refine ⟨turn_at HA3.out, ?_⟩
    rw [HE.out]
    exact ⟨rfl, HS.out _ _ _ HSA.out HA3.out, HR3.out⟩
  | false =>
    have hf := takeB_false ht
    have HE := Lib.hid (show RR = insideGo one endc ((sp L).length + 1) a (sp L) by rw [← HRR.out]; exact insideP_go HSZ.out ht)
    rw [hf] at HTE
    have hspl := sp_le L
    clear ht hf
    go_wp2_with fail
    refine HTE.out.mono ?_
    rintro e w3 ⟨rfl, hR, hA⟩
    have HR3 := Lib.hid hR
    have HA3 := Lib.hid (At.trans HA2.out hA)
    clear hR hA
    go_wp2_with fail
    go_loopg [8] ((sp L).length * 2 + 1) (fun k v8 wr => ∃ b a' L1, v8 = .bool b ∧ k = L1.length * 2 + (if b then 1 else 0) ∧ Hid (S a' wr) ∧ Hid (RB wr rb L1 (deep + 1)) ∧ Hid (Turn (fun k => k = rb ∨ B0 ≤ k) w wr) ∧ Hid (Tabs rb wr) ∧ size a' + L1.length ≤ 1000000000 ∧
      Hid (b = true → RR = insideGo one endc ((sp L1).length + 1) a' (sp L1)) ∧ Hid (b = false → RR = tailP endc a' L1))
    case atStart => exact ⟨true, a, sp L, rfl, by simp, Lib.hid (HS.out _ _ _ HSA.out HA3.out), HR3, Lib.hid (turn_at HA3.out), Lib.hid (HT.out.at HA3.out), by omega, Lib.hid (fun _ => by rw [sp_sp]; exact HE.out), Lib.hid (fun h => by cases h)⟩
    case round =>
      clear HR3 HA3 HE HTE HR2 HA2 HR1 HA1 HTK hspl
      obtain ⟨b, a', L1, rfl, hk, HSW, HR, HTU, HTB, hsl, HB1, HB2⟩ := hrel
      cases b with
      | false =>
        have HE := Lib.hid (HB2.out rfl)
        have HTT := Lib.hid (tail_take endc a' L1)
        have HTE := Lib.hid (take_calls HR.out ⟨#[endc]⟩ [endc] rfl)
        generalize takeB [endc] L1 = q at *
        obtain ⟨tb, K⟩ := q
        dsimp only at HTT HTE
        clear hk
        cases tb with
        | true =>
          go_wp2_with fail
          refine HTE.out.mono ?_
          rintro e w4 ⟨rfl, hR, hA⟩
          obtain ⟨g0, g1, f0, f1⟩ := two_of hR.heap
          have HR4 := Lib.hid (hR.setDeep deep)
          have hA4 := At.trans hA (at_set w4 rb 1 (.int .i64 deep))
          have HA4 := Lib.hid hA4
          clear hR hA hA4
          go_wp2_with fail
          refine (must_true _).mono ?_
          rintro e w5 ⟨rfl, rfl⟩
          go_wp2
          refine bodyPost_end (results_none rfl _ _ _) rfl ?_
          refine ⟨Turn.trans HTU.out HA4.out (fun k hk _ => .inl hk), ?_⟩
          rw [HE.out, HTT.out]
          exact ⟨rfl, HS.out _ _ _ HSW.out HA4.out, HR4.out⟩
        | false =>
          go_wp2_with fail
          refine HTE.out.mono ?_
          rintro e w4 ⟨rfl, hR, hA⟩
          have HA4 := Lib.hid hA
          clear hR hA
          go_wp2_with fail
          refine (must_false _).mono ?_
          rintro e w5 ⟨rfl, rfl⟩
          refine ⟨rfl, Turn.trans HTU.out HA4.out (fun k hk _ => .inl hk), ?_⟩
          rw [HE.out, HTT.out]
          rfl
      | true =>
        have HE := Lib.hid (HB1.out rfl)
        have hsp := sp_le L1
        go_wp2_with fail
        refine (space_calls HR.out).mono ?_
        rintro e w4 ⟨rfl, hR, hA⟩
        have HR4 := Lib.hid hR
        have HS4 := Lib.hid (HS.out _ _ _ HSW.out hA)
        have HT4 := Lib.hid (HTB.out.at hA)
        have HU4 := Lib.hid (Turn.trans HTU.out hA (fun k hk _ => .inl hk))
        clear hR hA
        go_wp2_with fail
        refine (HONE.out a' w4 (sp L1) HS4.out HR4.out HT4.out (by omega)).mono ?_
        rintro e w5 ⟨hU5, hM⟩
        have HU5 := Lib.hid (Turn.trans HU4.out hU5 (fun k hk _ => hk))
        cases ho : one a' (sp L1) with
        | error d =>
          rw [ho] at hM
          have hM : e = .panicked (erChain d) := hM
          subst hM
          refine ⟨rfl, HU5.out, ?_⟩
          rw [HE.out, insideGo_err ho]
        | ok q =>
          obtain ⟨a5, M⟩ := q
          rw [ho] at hM
          have hM : e = .returned (.tuple #[]) ∧ S a5 w5 ∧ RB w5 rb M (deep + 1) := hM
          obtain ⟨rfl, hS5, hR5⟩ := hM
          have hst := HSZ.out _ _ _ _ ho
          have HO := Lib.hid ho
          have HS5 := Lib.hid hS5
          have HR5 := Lib.hid hR5
          have HT5 : Hid (Tabs rb w5) := Lib.hid (tabs_turn hrb HT4.out hU5)
          have hspm := sp_le M
          clear hM hU5 hS5 hR5 ho
          go_wp2_with fail
          refine (space_calls HR5.out).mono ?_
          rintro e w6 ⟨rfl, hR, hA⟩
          have HR6 := Lib.hid hR
          have HS6 := Lib.hid (HS.out _ _ _ HS5.out hA)
          have HT6 := Lib.hid (HT5.out.at hA)
          have HU6 := Lib.hid (Turn.trans HU5.out hA (fun k hk _ => .inl hk))
          clear hR hA
          go_wp2_with fail
          refine (take_calls HR6.out ⟨#[44]⟩ [44] rfl).mono ?_
          rintro e w7 ⟨rfl, hR, hA⟩
          have HS7 := Lib.hid (HS.out _ _ _ HS6.out hA)
          have HT7 := Lib.hid (HT6.out.at hA)
          have HU7 := Lib.hid (Turn.trans HU6.out hA (fun k hk _ => .inl hk))
          cases hc : (takeB [44] (sp M)).1 with
          | true =>
            obtain ⟨K, hK1, hK2⟩ := takeB_true hc
            rw [hK2] at hR
            have HR7 := Lib.hid hR
            have hspk := sp_le K
            rw [hK1] at hspm
            have HL := Lib.hid (insideGo_more (endc := endc) (f := (sp L1).length) HO.out hK1)
            have HLF := Lib.hid (insideGo_fuel HSZ.out (endc := endc) (sp L1).length ((sp K).length + 1) a5 (sp K) (by simp at hspm; omega) (by omega))
            clear hR hA hK1 hK2 hc
            go_wp2
            go_roundg (K.length * 2 + 1)
            case measure => simp at hspm hk; omega
            case rel => exact ⟨true, a5, K, rfl, by simp, HS7, HR7, HU7, HT7, by simp at hspm; omega, Lib.hid (fun _ => by rw [HE.out, HL.out, HLF.out]), Lib.hid (fun h => by cases h)⟩
          | false =>
            have hK2 := takeB_false hc
            rw [hK2] at hR
            have HR7 := Lib.hid hR
            have HL := Lib.hid (insideGo_last (endc := endc) (f := (sp L1).length) HO.out hc)
            clear hR hA hK2 hc
            go_wp2
            go_roundg ((sp M).length * 2)
            case measure => simp at hk; omega
            case rel => exact ⟨false, a5, sp M, rfl, by simp, HS7, HR7, HU7, HT7, by omega, Lib.hid (fun h => by cases h), Lib.hid (fun _ => by rw [HE.out, HL.out])⟩
end Go.Proofs.YtminegmjklehnaaGreatDoor.J

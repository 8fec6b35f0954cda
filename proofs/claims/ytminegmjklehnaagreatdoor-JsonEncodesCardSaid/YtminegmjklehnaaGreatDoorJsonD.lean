/-
  The reader of JSON: hex, lower, escape.
-/
import Derived.Test.YtminegmjklehnaaGreatDoorJsonC
namespace Go.Proofs.YtminegmjklehnaaGreatDoor.J
open Go.RowKit Go.Proofs.YtminegmjklehnaaGreatDoor.B
open Go.Proofs.YtminegmjklehnaaGreatDoor.M hiding Bs
open Go.Proofs.YtminegmjklehnaaGreatDoor.C (QRow Turn)
set_option linter.unusedVariables false
set_option linter.unusedSimpArgs false

def lowN (c : Nat) : Nat := if 65 ≤ c ∧ c ≤ 90 then c + 32 else c
set_option maxRecDepth 100000 in
set_option maxHeartbeats 1000000 in
theorem lower_calls (c : UInt8) (w : World) : Calls Tryz.prog 105 #[.int .u8 c.toNat] w fun e w' => e = .returned (.int .u8 (lowN c.toNat)) ∧ w' = w := by
  have hc := c.toNat_lt
  generalize c.toNat = k at *
  by_cases h1 : 65 ≤ k
  · by_cases h2 : k ≤ 90
    · have e : lowN k = k + 32 := by unfold lowN; rw [if_pos ⟨h1, h2⟩]
      rw [e]
      clear e
      have g1 : (65 : Int) ≤ (k : Int) := by omega
      have g2 : (k : Int) ≤ 90 := by omega
      go_enter Tryz.func105, Tryz.ntmps105
      go_wp2
      go_ret
      exact ⟨by show Ending.returned (Value.int IntKind.u8 ((k : Int) + 97 - 65)) = _; rw [show ((k : Int) + 97 - 65) = ((k + 32 : Nat) : Int) by omega], rfl⟩
    · have e : lowN k = k := by unfold lowN; rw [if_neg (by omega)]
      rw [e]
      have g1 : (65 : Int) ≤ (k : Int) := by omega
      have g2 : ¬ (k : Int) ≤ 90 := by omega
      go_enter Tryz.func105, Tryz.ntmps105
      go_wp2
      go_ret
      exact ⟨rfl, rfl⟩
  · have e : lowN k = k := by unfold lowN; rw [if_neg (by omega)]
    rw [e]
    have g1 : ¬ (65 : Int) ≤ (k : Int) := by omega
    go_enter Tryz.func105, Tryz.ntmps105
    go_wp2
    go_ret
    exact ⟨rfl, rfl⟩
def hexGo : Bs → Nat → Option Nat
  | [], a => some a
  | c :: l, a => match hexD c with
    | none => none
    | some d => hexGo l (a * 16 + d)
theorem hexGo_none {c : UInt8} {l : Bs} {a : Nat} (h : hexD c = none) : hexGo (c :: l) a = none := by rw [hexGo, h]
theorem hexGo_some {c : UInt8} {l : Bs} {a d : Nat} (h : hexD c = some d) : hexGo (c :: l) a = hexGo l (a * 16 + d) := by rw [hexGo, h]
theorem hexP_go (L : Bs) : hexP L = if L.length < 4 then .error 3 else match hexGo (L.take 4) 0 with
    | none => .error 3
    | some v => .ok (v, L.drop 4) := by
  match L with
  | [] => rfl
  | [_] => rfl
  | [_, _] => rfl
  | [_, _, _] => rfl
  | a :: b :: c :: d :: L =>
    rw [if_neg (by simp), hexP_4]
    rw [show (a :: b :: c :: d :: L).take 4 = [a, b, c, d] from rfl, show (a :: b :: c :: d :: L).drop 4 = L from rfl]
    cases ha : hexD a with
    | none => rw [hexGo_none ha]
    | some x =>
      rw [hexGo_some ha]
      cases hb : hexD b with
      | none => rw [hexGo_none hb]
      | some y =>
        rw [hexGo_some hb]
        cases hc : hexD c with
        | none => rw [hexGo_none hc]
        | some z =>
          rw [hexGo_some hc]
          cases hd : hexD d with
          | none => rw [hexGo_none hd]
          | some u =>
            rw [hexGo_some hd]
            show Except.ok (((x * 16 + y) * 16 + z) * 16 + u, L) = Except.ok ((((0 * 16 + x) * 16 + y) * 16 + z) * 16 + u, L)
            congr 2
            omega
theorem hexGo_app (l m : Bs) (a : Nat) : hexGo (l ++ m) a = (hexGo l a).bind (fun v => hexGo m v) := by
  induction l generalizing a with
  | nil => rfl
  | cons c l ih =>
    cases h : hexD c with
    | none => rw [List.cons_append, hexGo_none h, hexGo_none h]; rfl
    | some d => rw [List.cons_append, hexGo_some h, hexGo_some h, ih]
theorem take_snoc {L : Bs} {k : Nat} {c : UInt8} (h : L[k]? = some c) : L.take (k + 1) = L.take k ++ [c] := by
  rw [List.take_add_one, h]; rfl
abbrev hexS : Bs := [48, 49, 50, 51, 52, 53, 54, 55, 56, 57, 97, 98, 99, 100, 101, 102]
theorem hex_index (c : UInt8) : Lib.indexByte hexS (lowN c.toNat).toUInt8 = (match hexD c with | some d => (d : Int) | none => -1) := by
  have key : ∀ x : Fin 256, Lib.indexByte hexS (lowN x.val).toUInt8 = (match hexD (UInt8.ofNat x.val) with | some d => (d : Int) | none => -1) := by decide +kernel
  have := key ⟨c.toNat, c.toNat_lt⟩
  simpa using this
theorem hexD_lt {c : UInt8} {x : Nat} (hc : hexD c = some x) : x < 16 := by
  unfold hexD at hc
  repeat' (split at hc)
  all_goals first | cases hc; omega | cases hc
theorem idx_calls (c : UInt8) (w : World) :
    Calls Tryz.prog 66 #[.string ⟨#[48, 49, 50, 51, 52, 53, 54, 55, 56, 57, 97, 98, 99, 100, 101, 102]⟩, .int .u8 (lowN c.toNat)] w fun e w' => e = .returned (.int .i64 (match hexD c with | some d => (d : Int) | none => -1)) ∧ w' = w := by
  refine (Tryz.strings_IndexByte ⟨hexS.toArray⟩ (lowN c.toNat) w).mono ?_
  rintro e w' ⟨rfl, rfl⟩
  rw [← hex_index]
  exact ⟨rfl, rfl⟩
theorem or4 {v d : Nat} (hv : v < 4096) (hd : d < 16) : bits .or .i32 ((v : Int) * 16) (d : Int) = ((v * 16 + d : Nat) : Int) := by
  rw [bits_join .i32 31 (by decide) wraps_i32 4 _ _ (by omega) (by omega) (by omega) (by omega) (by omega) (by omega)]
  omega
theorem pow16 {k v : Nat} (hk : k < 4) (hv : v < 16 ^ k) : v < 4096 := by
  have : 16 ^ k ≤ 16 ^ 3 := Nat.pow_le_pow_right (by omega) (by omega)
  omega
set_option maxRecDepth 100000 in
set_option maxHeartbeats 4000000 in
theorem hex_calls {w : World} {rb : Nat} {L : Bs} {deep : Int} (h : RB w rb L deep) :
    Calls Tryz.prog 93 #[.pointer (some ⟨rb, 0, none⟩)] w (Ends rb deep w (fun _ (n : Nat) e => e = .returned (.int .i32 n) ∧ n < 65536) (hexP L)) := by
  obtain ⟨g0, g1, f0, f1⟩ := two_of h.heap
  have hsz := sz L
  have hln := h.len
  have HP := Lib.hid (hexP_go L)
  by_cases h4 : L.length < 4
  · clear h
    have h4' : ¬ (4 : Int) ≤ (L.length : Int) := by omega
    have HE := Lib.hid (show hexP L = .error 3 by rw [HP.out, if_pos h4])
    clear h4
    go_enter Tryz.func93, Tryz.ntmps93
    go_wp2_with fail
    refine (must_false _).mono ?_
    rintro e w2 ⟨rfl, rfl⟩
    refine ⟨rfl, At.refl _ _, ?_⟩
    rw [HE.out]
  have h4' : (4 : Int) ≤ (L.length : Int) := by omega
  rw [if_neg h4] at HP
  have HS := Lib.hid (h.set (L.drop 4) (by rw [List.length_drop]; omega))
  have HA := Lib.hid (at_set w rb 0 (vs (L.drop 4)))
  have HED := Lib.hid (show (⟨L.toArray⟩ : ByteArray).extract 4 L.length = ⟨(L.drop 4).toArray⟩ from ext_drop _ _ _ rfl)
  clear h h4
  go_enter Tryz.func93, Tryz.ntmps93
  go_wp2_with fail
  refine (must_true _).mono ?_
  rintro e w2 ⟨rfl, rfl⟩
  go_wp2_with fail
  go_loopw [3, 13] (fun v3 v13 wr => ∃ k v : Nat, k ≤ 4 ∧ v13 = .int .i64 k ∧ v3 = .int .i32 v ∧ v < 16 ^ k ∧ Hid (hexGo (L.take k) 0 = some v) ∧ wr = w2) (fun _ v13 _ => 4 - (intOf v13).toNat)
  case atStart => exact ⟨0, 0, Nat.zero_le _, rfl, rfl, by omega, Lib.hid rfl, rfl⟩
  case round =>
    obtain ⟨k, v, hk4, rfl, rfl, hv, HV, rfl⟩ := hrel
    by_cases hk : k < 4
    · obtain ⟨c, hc⟩ : ∃ c, L[k]? = some c := ⟨L[k]'(by omega), List.getElem?_eq_getElem (by omega)⟩
      have hix := idxk hc
      have hkl : (k : Int) < (L.length : Int) := by omega
      have HC := Lib.hid hc
      have HL := Lib.hid (fun w => lower_calls c w)
      have HI := Lib.hid (fun w => idx_calls c w)
      have HT := Lib.hid (show hexGo (L.take (k + 1)) 0 = hexGo [c] v by rw [take_snoc hc, hexGo_app, HV.out]; rfl)
      have HLT := Lib.hid (fun d (h : hexD c = some d) => hexD_lt h)
      generalize lowN c.toNat = lc at *
      obtain ⟨hd, hD⟩ : ∃ hd, hexD c = hd := ⟨_, rfl⟩
      rw [hD] at HI
      have HDQ := Lib.hid hD
      have hv4 := pow16 hk hv
      clear hc hD
      cases hd with
      | none =>
        go_wp2_with fail
        refine (HL.out _).mono ?_
        rintro e w3 ⟨rfl, rfl⟩
        go_wp2_with fail
        refine (HI.out _).mono ?_
        rintro e w4 ⟨rfl, rfl⟩
        go_wp2_with fail
        refine (must_false _).mono ?_
        rintro e w5 ⟨rfl, rfl⟩
        refine ⟨rfl, At.refl _ _, ?_⟩
        have hn : hexGo (L.take 4) 0 = none := by
          have e : L.take 4 = L.take (k + 1) ++ (L.take 4).drop (k + 1) := by
            have := List.take_append_drop (k + 1) (L.take 4)
            rw [List.take_take, Nat.min_eq_left (by omega)] at this
            exact this.symm
          rw [e, hexGo_app, HT.out, hexGo_none HDQ.out]
          rfl
        rw [HP.out, hn]
      | some d =>
        have hdl := HLT.out d HDQ.out
        go_wp2_with fail
        refine (HL.out _).mono ?_
        rintro e w3 ⟨rfl, rfl⟩
        go_wp2_with fail
        refine (HI.out _).mono ?_
        rintro e w4 ⟨rfl, rfl⟩
        go_wp2_with fail
        refine (must_true _).mono ?_
        rintro e w5 ⟨rfl, rfl⟩
        go_wp2
        refine ⟨⟨k + 1, v * 16 + d, by omega, by go_num, by rw [or4 hv4 hdl], ?_, Lib.hid (by rw [HT.out, hexGo_some HDQ.out]; rfl), trivial⟩, by simp [intOf]; omega⟩
        rw [Nat.pow_succ]
        omega
    · have hk4' : k = 4 := by omega
      subst hk4'
      go_wp2
      go_ret
      rw [HED.out, HP.out, HV.out]
      exact ⟨HA.out, ⟨rfl, by omega⟩, HS.out⟩
/-! ### escape -/
abbrev bc (m : Bs) : List Value := m.map (fun b => .int .u8 b.toNat)
abbrev escS : Bs := [34, 92, 47, 98, 102, 110, 114, 116]
abbrev meanS : Bs := [34, 92, 47, 8, 12, 10, 13, 9]
theorem esc_index (c : UInt8) : match escOf c with
    | some m => ∃ i : Nat, Lib.indexByte escS c = (i : Int) ∧ meanS[i]? = some m
    | none => Lib.indexByte escS c = -1 := by
  have key : ∀ x : Fin 256, (match escOf (UInt8.ofNat x.val) with
    | some m => (meanS[(Lib.indexByte escS (UInt8.ofNat x.val)).toNat]? == some m) && decide (0 ≤ Lib.indexByte escS (UInt8.ofNat x.val))
    | none => decide (Lib.indexByte escS (UInt8.ofNat x.val) = -1)) = true := by decide +kernel
  have h := key ⟨c.toNat, c.toNat_lt⟩
  have e : UInt8.ofNat c.toNat = c := by simp
  simp only [e] at h
  split
  · rename_i m hm
    rw [hm] at h
    simp only [Bool.and_eq_true, beq_iff_eq, decide_eq_true_eq] at h
    exact ⟨_, (Int.toNat_of_nonneg h.2).symm, h.1⟩
  · rename_i hm
    rw [hm] at h
    simpa using h
theorem utf_cells {n : Nat} (h : n < 55296 ∨ 57344 ≤ n) (h2 : n ≤ 1114111) : Lib.runeCells (n : Int) = bc (utfB n) := by
  unfold Lib.runeCells utfB
  by_cases c1 : n < 128
  · rw [if_pos c1, Lib.encodeRuneZ_one (by omega) (by omega)]
    simp only [List.map_cons, List.map_nil, bc]
    rw [ofNat_toNat (by omega)]
  rw [if_neg c1]
  by_cases c2 : n < 2048
  · rw [if_pos c2, Lib.encodeRuneZ_two (by omega) (by omega)]
    simp only [List.map_cons, List.map_nil, bc]
    rw [ofNat_toNat (by omega), ofNat_toNat (by omega)]
    congr
  rw [if_neg c2]
  by_cases c3 : n < 65536
  · rw [if_pos c3, Lib.encodeRuneZ_three (by omega)]
    simp only [List.map_cons, List.map_nil, bc]
    rw [ofNat_toNat (by omega), ofNat_toNat (by omega), ofNat_toNat (by omega)]
    congr
  rw [if_neg c3, Lib.encodeRuneZ_four (by omega) (by omega)]
  simp only [List.map_cons, List.map_nil, bc]
  rw [ofNat_toNat (by omega), ofNat_toNat (by omega), ofNat_toNat (by omega), ofNat_toNat (by omega)]
  congr
def BytesV (w0 : World) (w' : World) (m : Bs) (e : Ending) : Prop := ∃ v, e = .returned v ∧ w'.ownsRow w0.heap.size 5 1 v m.length (bc m)
theorem infoByte : (Tryz.prog.info? 5).map (fun i => (i.zero, i.size, i.bytes)) = some (some (.int .u8 0), 1, 1) := by kernel_rfl
theorem rune_calls {n : Nat} (h : n < 55296 ∨ 57344 ≤ n) (h2 : n ≤ 1114111) (w : World) :
    Calls Tryz.prog 94 #[.slice none 0 0, .int .i32 n] w fun e w' => BytesV w w' (utfB n) e ∧ Below w.heap.size w w' := by
  refine (Tryz.utf8_AppendRune_plain w.heap.size (.slice none 0 0) 0 [] n (by omega) (by omega) w (World.ownsRow_nil w _ _ _) (by omega) (Nat.le_refl _)).mono ?_
  rintro e w' ⟨v, rfl, ho, o, hg⟩
  rw [utf_cells h h2, List.nil_append, Nat.zero_add] at ho
  refine ⟨⟨v, rfl, by simpa using ho⟩, ?_⟩
  exact ((Below.refl w.heap.size w).alloc (Nat.le_refl _) o).grown hg (by simp) (fun b hb => by cases hb)
theorem wordU_one (a c : UInt8) (L : Bs) : wordU [a] (c :: L) = if c == a then .ok ((), L) else .error 3 := by
  unfold wordU
  by_cases h : c = a
  · subst h; simp [List.isPrefixOf]
  · have h1 : (c == a) = false := by simpa using h
    have h2 : (a == c) = false := by simpa using fun e => h e.symm
    rw [h1]
    simp [List.isPrefixOf, h2]
theorem lowP_word (n : Nat) (M : Bs) : lowP n M = match wordU [92, 117] M with
    | .error e => .error e
    | .ok (_, L) => match hexP L with
      | .error e => .error e
      | .ok (m, K) => if m < 56320 ∨ 57344 ≤ m then .error 3 else .ok (utfB (65536 + (n - 55296) * 1024 + (m - 56320)), K) := by
  match M with
  | [] => rfl
  | [_] => simp [lowP, wordU, List.isPrefixOf]
  | a :: b :: L =>
    show (if a == 92 && b == 117 then _ else _) = _
    unfold wordU
    by_cases ha : a = 92
    · by_cases hb : b = 117
      · subst ha hb; rfl
      · have h2 : ((117 : UInt8) == b) = false := by simpa using fun e => hb e.symm
        have h1 : (b == 117) = false := by simpa using hb
        simp [List.isPrefixOf, h1, h2]
    · have h2 : ((92 : UInt8) == a) = false := by simpa using fun e => ha e.symm
      have h1 : (a == 92) = false := by simpa using ha
      simp [List.isPrefixOf, h1, h2]
theorem lit1 (w : World) (a : Addr) (x y : Value) : ((w.setCell a x).alloc (.cells #[y] 5)).ownsRow w.heap.size 5 1 (.slice (some ⟨w.heap.size, 0, none⟩) 1 1) 1 [y] := by
  have h := World.ownsRow_lit (e := 5) (size := 1) (base := w.heap.size) (w.setCell a x) #[y] 1 (by simp) (by decide) rfl
  rwa [show (w.setCell a x).heap.size = w.heap.size by simp] at h
theorem own_base {w : World} {B B' : Nat} {e : TypeId} {size : Nat} {v : Value} {n : Nat} {xs : List Value} (hB : B ≤ B') (h : w.ownsRow B' e size v n xs) : w.ownsRow B e size v n xs := by
  refine ⟨h.1, ?_⟩
  rcases h.2 with h | ⟨g, cap, cur, h0, h1, h2, h3⟩
  · exact .inl h
  · exact .inr ⟨g, cap, cur, h0, Nat.le_trans hB h1, h2, h3⟩
set_option maxRecDepth 100000 in
set_option maxHeartbeats 16000000 in
theorem escape_calls {w : World} {rb : Nat} {L : Bs} {deep : Int} (h : RB w rb L deep) :
    Calls Tryz.prog 69 #[.pointer (some ⟨rb, 0, none⟩)] w (Ends rb deep w (BytesV w) (escP L)) := by
  obtain ⟨g0, g1, f0, f1⟩ := two_of h.heap
  have hsz := sz L
  have hln := h.len
  cases L with
  | nil =>
    clear h
    go_enter Tryz.func69, Tryz.ntmps69
    go_wp2_with fail
    refine (must_false _).mono ?_
    rintro e w2 ⟨rfl, rfl⟩
    exact ⟨rfl, At.refl _ _, rfl⟩
  | cons c L =>
    have hix := idx0 c L
    have HP := Lib.hid (escP_cons c L)
    have HEI := Lib.hid (esc_index c)
    have HIB := Lib.hid (fun w => Tryz.strings_IndexByte ⟨escS.toArray⟩ (c.toNat : Int) w)
    have hcc : (c.toNat : Int).toNat.toUInt8 = c := by simp
    rw [hcc] at HIB
    have HS := Lib.hid (h.set L (by simp))
    have HA := Lib.hid (at_set w rb 0 (vs L))
    have HED := Lib.hid (show (⟨(c :: L).toArray⟩ : ByteArray).extract 1 (L.length + 1) = ⟨L.toArray⟩ from ext_drop (c :: L) 1 _ rfl)
    have HR := Lib.hid h
    have hrl := h.lt
    clear h hcc
    cases he : escOf c with
    | some m =>
      rw [he] at HP HEI
      obtain ⟨i, hi1, hi2⟩ := HEI.out
      have hm := idxk hi2
      have hil : i < 8 := (List.getElem?_eq_some_iff.1 hi2).1
      have HI1 := Lib.hid hi1
      clear he hi1 hi2
      go_enter Tryz.func69, Tryz.ntmps69
      go_wp2_with fail
      refine (must_true _).mono ?_
      rintro e w2 ⟨rfl, rfl⟩
      go_wp2_with fail
      refine (HIB.out _).mono ?_
      rintro e w3 ⟨rfl, rfl⟩
      rw [show Lib.indexByte (⟨escS.toArray⟩ : ByteArray).data.toList c = (i : Int) from HI1.out]
      go_wp2
      go_ret
      rw [HED.out, HP.out]
      exact ⟨At.alloc_new HA.out _, ⟨_, rfl, lit1 _ _ _ _⟩, HS.out.below ((Below.refl _ _).alloc (Nat.le_refl _) _)⟩
    | none =>
      rw [he] at HP HEI
      have HI1 := Lib.hid (show Lib.indexByte escS c = -1 from HEI.out)
      clear he
      go_enter Tryz.func69, Tryz.ntmps69
      go_wp2_with fail
      refine (must_true _).mono ?_
      rintro e w2 ⟨rfl, rfl⟩
      go_wp2_with fail
      refine (HIB.out _).mono ?_
      rintro e w3 ⟨rfl, rfl⟩
      rw [show Lib.indexByte (⟨escS.toArray⟩ : ByteArray).data.toList c = -1 from HI1.out]
      go_wp2_with fail
      refine (word_calls HR.out ⟨#[117]⟩ [117] rfl (by decide)).mono ?_
      rintro e w4 ⟨hA, hM⟩
      rw [wordU_one] at hM
      cases hc : (c == 117) with
      | false =>
        rw [hc] at hM HP
        have hM : e = .panicked (erChain 3) := hM
        subst hM
        refine ⟨rfl, hA, ?_⟩
        rw [HP.out]
        rfl
      | true =>
        rw [hc] at hM HP
        have hM : e = .returned (.tuple #[]) ∧ RB w4 rb L deep := hM
        obtain ⟨rfl, hR⟩ := hM
        have HP2 := Lib.hid (show escP (c :: L) = uniP L from HP.out)
        have HR4 := Lib.hid hR
        have HA4 := Lib.hid hA
        have HU := Lib.hid (show uniP L = match hexP L with
          | .error e => .error e
          | .ok (n, M) => if 56320 ≤ n ∧ n < 57344 then .error 3 else if 55296 ≤ n ∧ n < 56320 then lowP n M else .ok (utfB n, M) from rfl)
        clear hc hM hA hR
        go_wp2_with fail
        refine (hex_calls HR4.out).mono ?_
        rintro e w5 ⟨hA, hM⟩
        have HA5 := Lib.hid (At.trans HA4.out hA)
        cases hh : hexP L with
        | error d =>
          rw [hh] at hM HU
          have hM : e = .panicked (erChain d) := hM
          subst hM
          refine ⟨rfl, HA5.out, ?_⟩
          rw [HP2.out, HU.out]
        | ok p =>
          obtain ⟨n, M⟩ := p
          rw [hh] at hM HU
          have hM : (e = .returned (.int .i32 n) ∧ n < 65536) ∧ RB w5 rb M deep := hM
          obtain ⟨⟨rfl, hn⟩, hR⟩ := hM
          have HR5 := Lib.hid hR
          have HU2 := Lib.hid (show uniP L = if 56320 ≤ n ∧ n < 57344 then .error 3 else if 55296 ≤ n ∧ n < 56320 then lowP n M else .ok (utfB n, M) from HU.out)
          clear hM hA hR hh
          by_cases c1 : n < 56320
          · have c1' : decide ((n : Int) < 56320) = true := decide_eq_true (by omega)
            by_cases c2 : 55296 ≤ n
            · have c2' : decide ((55296 : Int) ≤ (n : Int)) = true := decide_eq_true (by omega)
              have HLP := Lib.hid (lowP_word n M)
              have HU3 := Lib.hid (show uniP L = lowP n M by rw [HU2.out, if_neg (by omega), if_pos ⟨c2, c1⟩])
              go_wp2_with fail
              refine (must_true _).mono ?_
              rintro e w6 ⟨rfl, rfl⟩
              go_wp2_with fail
              refine (word_calls HR5.out ⟨#[92, 117]⟩ [92, 117] rfl (by decide)).mono ?_
              rintro e w7 ⟨hA, hM⟩
              have HA7 := Lib.hid (At.trans HA5.out hA)
              cases hw : wordU [92, 117] M with
              | error d2 =>
                rw [hw] at hM HLP
                have hM : e = .panicked (erChain d2) := hM
                subst hM
                refine ⟨rfl, HA7.out, ?_⟩
                rw [HP2.out, HU3.out, HLP.out]
              | ok p =>
                obtain ⟨u, K⟩ := p
                rw [hw] at hM HLP
                have hM : e = .returned (.tuple #[]) ∧ RB w7 rb K deep := hM
                obtain ⟨rfl, hR⟩ := hM
                have HR7 := Lib.hid hR
                clear hM hA hR hw
                go_wp2_with fail
                refine (hex_calls HR7.out).mono ?_
                rintro e w8 ⟨hA, hM⟩
                have HA8 := Lib.hid (At.trans HA7.out hA)
                cases hh : hexP K with
                | error d3 =>
                  rw [hh] at hM HLP
                  have hM : e = .panicked (erChain d3) := hM
                  subst hM
                  refine ⟨rfl, HA8.out, ?_⟩
                  rw [HP2.out, HU3.out, HLP.out]
                | ok p =>
                  obtain ⟨m, N⟩ := p
                  rw [hh] at hM HLP
                  have hM : (e = .returned (.int .i32 m) ∧ m < 65536) ∧ RB w8 rb N deep := hM
                  obtain ⟨⟨rfl, hm⟩, hR⟩ := hM
                  have HR8 := Lib.hid hR
                  have HL2 := Lib.hid (show lowP n M = if m < 56320 ∨ 57344 ≤ m then .error 3 else .ok (utfB (65536 + (n - 55296) * 1024 + (m - 56320)), N) from HLP.out)
                  clear hM hA hR hh
                  by_cases d1 : 56320 ≤ m
                  · have d1' : decide ((56320 : Int) ≤ (m : Int)) = true := decide_eq_true (by omega)
                    by_cases d2 : m < 57344
                    · have d2' : decide ((m : Int) < 57344) = true := decide_eq_true (by omega)
                      have HRC := Lib.hid (fun w => rune_calls (n := 65536 + (n - 55296) * 1024 + (m - 56320)) (by omega) (by omega) w)
                      have hx : (65536 + ((n : Int) - 55296) * 1024 + (m : Int) - 56320) = ((65536 + (n - 55296) * 1024 + (m - 56320) : Nat) : Int) := by omega
                      have HXX := Lib.hid hx
                      have HL3 := Lib.hid (show lowP n M = .ok (utfB (65536 + (n - 55296) * 1024 + (m - 56320)), N) by rw [HL2.out, if_neg (by omega)])
                      have HSZ := Lib.hid HA8.out.size
                      clear hx
                      go_wp2_with fail
                      refine (must_true _).mono ?_
                      rintro e w9 ⟨rfl, rfl⟩
                      go_wp2_with fail
                      rw [HXX.out]
                      refine (HRC.out _).mono ?_
                      rintro e w10 ⟨⟨v, rfl, ho⟩, hb⟩
                      have HO := Lib.hid ho
                      have HB := Lib.hid hb
                      clear ho hb
                      go_wp2
                      go_ret
                      rw [HP2.out, HU3.out, HL3.out]
                      exact ⟨At.below HA8.out HB.out, ⟨v, rfl, own_base HSZ.out HO.out⟩, HR8.out.below HB.out⟩
                    · have d2' : decide ((m : Int) < 57344) = false := decide_eq_false (by omega)
                      have HL3 := Lib.hid (show lowP n M = .error 3 by rw [HL2.out, if_pos (by omega)])
                      go_wp2_with fail
                      refine (must_false _).mono ?_
                      rintro e w9 ⟨rfl, rfl⟩
                      refine ⟨rfl, HA8.out, ?_⟩
                      rw [HP2.out, HU3.out, HL3.out]
                  · have d1' : decide ((56320 : Int) ≤ (m : Int)) = false := decide_eq_false (by omega)
                    have HL3 := Lib.hid (show lowP n M = .error 3 by rw [HL2.out, if_pos (by omega)])
                    go_wp2_with fail
                    refine (must_false _).mono ?_
                    rintro e w9 ⟨rfl, rfl⟩
                    refine ⟨rfl, HA8.out, ?_⟩
                    rw [HP2.out, HU3.out, HL3.out]
            · have c2' : decide ((55296 : Int) ≤ (n : Int)) = false := decide_eq_false (by omega)
              have HU3 := Lib.hid (show uniP L = .ok (utfB n, M) by rw [HU2.out, if_neg (by omega), if_neg (by omega)])
              have HRC := Lib.hid (fun w => rune_calls (n := n) (by omega) (by omega) w)
              have HSZ := Lib.hid HA5.out.size
              go_wp2_with fail
              refine (must_true _).mono ?_
              rintro e w9 ⟨rfl, rfl⟩
              go_wp2_with fail
              refine (HRC.out _).mono ?_
              rintro e w10 ⟨⟨v, rfl, ho⟩, hb⟩
              have HO := Lib.hid ho
              have HB := Lib.hid hb
              clear ho hb
              go_wp2
              go_ret
              rw [HP2.out, HU3.out]
              exact ⟨At.below HA5.out HB.out, ⟨v, rfl, own_base HSZ.out HO.out⟩, HR5.out.below HB.out⟩
          · have c1' : decide ((n : Int) < 56320) = false := decide_eq_false (by omega)
            have c2' : decide ((55296 : Int) ≤ (n : Int)) = true := decide_eq_true (by omega)
            by_cases c3 : 57344 ≤ n
            · have c3' : decide ((57344 : Int) ≤ (n : Int)) = true := decide_eq_true (by omega)
              have HU3 := Lib.hid (show uniP L = .ok (utfB n, M) by rw [HU2.out, if_neg (by omega), if_neg (by omega)])
              have HRC := Lib.hid (fun w => rune_calls (n := n) (by omega) (by omega) w)
              have HSZ := Lib.hid HA5.out.size
              go_wp2_with fail
              refine (must_true _).mono ?_
              rintro e w9 ⟨rfl, rfl⟩
              go_wp2_with fail
              refine (HRC.out _).mono ?_
              rintro e w10 ⟨⟨v, rfl, ho⟩, hb⟩
              have HO := Lib.hid ho
              have HB := Lib.hid hb
              clear ho hb
              go_wp2
              go_ret
              rw [HP2.out, HU3.out]
              exact ⟨At.below HA5.out HB.out, ⟨v, rfl, own_base HSZ.out HO.out⟩, HR5.out.below HB.out⟩
            · have c3' : decide ((57344 : Int) ≤ (n : Int)) = false := decide_eq_false (by omega)
              have HU3 := Lib.hid (show uniP L = .error 3 by rw [HU2.out, if_pos (by omega)])
              go_wp2_with fail
              refine (must_false _).mono ?_
              rintro e w9 ⟨rfl, rfl⟩
              refine ⟨rfl, HA5.out, ?_⟩
              rw [HP2.out, HU3.out]
end Go.Proofs.YtminegmjklehnaaGreatDoor.J

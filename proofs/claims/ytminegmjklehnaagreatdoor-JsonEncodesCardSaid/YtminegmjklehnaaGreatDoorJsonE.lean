/-
  The reader of JSON: text.
-/
import Derived.Test.YtminegmjklehnaaGreatDoorJsonD
import Derived.Lib.AppendStr
namespace Go.Proofs.YtminegmjklehnaaGreatDoor.J
open Go.RowKit Go.Proofs.YtminegmjklehnaaGreatDoor.B
open Go.Proofs.YtminegmjklehnaaGreatDoor.M hiding Bs
open Go.Proofs.YtminegmjklehnaaGreatDoor.C (QRow Turn)
set_option linter.unusedVariables false
set_option linter.unusedSimpArgs false

/-- the library's two tables, ahead of the reader. -/
def Tabs (rb : Nat) (w : World) : Prop := Lib.Utf8Tabs 0 1 w ∧ 0 < rb ∧ 1 < rb
theorem Tabs.at {rb : Nat} {w w' : World} (h : Tabs rb w) (hA : At rb w w') : Tabs rb w' := by
  obtain ⟨⟨h1, h2⟩, h3, h4⟩ := h
  have key : ∀ (g o : Nat) (v : Value), g < rb → w.cell? ⟨g, o, none⟩ = some v → w'.cell? ⟨g, o, none⟩ = some v := by
    intro g o v hg hc
    have hl := World.block_lt_of_cell? w _ hc
    rw [cell_congr (hA.block g hl (by omega))]
    exact hc
  exact ⟨⟨fun c hc => key _ _ _ h3 (h1 c hc), fun i hi => ⟨key _ _ _ h4 (h2 i hi).1, key _ _ _ h4 (h2 i hi).2⟩⟩, h3, h4⟩
theorem esc_len {L M m : Bs} (h : escP L = .ok (m, M)) : m.length ≤ 4 := by
  have hu : ∀ n, (utfB n).length ≤ 4 := by
    intro n
    unfold utfB
    repeat' split
    all_goals simp
  cases L with
  | nil => cases h
  | cons c L =>
    rw [escP_cons] at h
    split at h
    · cases h; simp
    · split at h
      · unfold uniP at h
        split at h
        · cases h
        · rename_i n M' hx
          split at h
          · cases h
          · split at h
            · rw [lowP_word] at h
              split at h
              · cases h
              · split at h
                · cases h
                · split at h
                  · cases h
                  · have h := Except.ok.inj h
                    rw [Prod.mk.injEq] at h
                    rw [← h.1]
                    exact hu _
            · cases h
              exact hu _
      · cases h
theorem esc_pos {L M m : Bs} (h : escP L = .ok (m, M)) : m ≠ [] := by
  have hu : ∀ n, utfB n ≠ [] := by
    intro n
    unfold utfB
    repeat' split
    all_goals simp
  cases L with
  | nil => cases h
  | cons c L =>
    rw [escP_cons] at h
    split at h
    · cases h; simp
    · split at h
      · unfold uniP at h
        split at h
        · cases h
        · rename_i n M' hx
          split at h
          · cases h
          · split at h
            · rw [lowP_word] at h
              split at h
              · cases h
              · split at h
                · cases h
                · split at h
                  · cases h
                  · have h := Except.ok.inj h
                    rw [Prod.mk.injEq] at h
                    rw [← h.1]
                    exact hu _
            · cases h
              exact hu _
      · cases h
theorem decodeN_ge {n b0 b1 b2 b3 : Nat} (h : 128 ≤ b0) : 128 ≤ (Lib.decodeN n b0 b1 b2 b3).1 := by
  unfold Lib.decodeN
  rw [if_neg (by omega)]
  repeat' split
  all_goals simp only
  all_goals omega
/-- the program's test of a character is the plain one. -/
theorem dec_test (c : UInt8) (L : Bs) : (charN (c :: L) = 0 ∨ c.toNat < 32) ↔ ¬ (32 ≤ (Lib.decodeL (c :: L)).1 ∧ ((Lib.decodeL (c :: L)).1 ≠ 65533 ∨ 1 < (Lib.decodeL (c :: L)).2)) := by
  have hw := Lib.decodeL_width (c :: L)
  unfold charN
  rw [if_neg (by simp)]
  by_cases hc : c.toNat < 128
  · rw [Lib.decodeL_ascii c L hc]
    simp
    omega
  · have hge : 128 ≤ (Lib.decodeL (c :: L)).1 := by
      rw [Lib.decodeL_N]
      exact decodeN_ge (by show 128 ≤ ((c :: L).getD 0 0).toNat; simp; omega)
    split
    · rename_i h; simp; omega
    · rename_i h; omega
theorem decodeGo_nil : Lib.decodeGo ⟨([] : Bs).toArray⟩ = (65533, 0) := rfl
theorem decodeGo_cons (c : UInt8) (L : Bs) : Lib.decodeGo ⟨(c :: L).toArray⟩ = Lib.decodeL (c :: L) := by
  unfold Lib.decodeGo
  rw [if_neg (by rw [sz]; simp)]
  rfl
set_option maxRecDepth 100000 in
theorem row_conv {w : World} {base : Nat} {v : Value} {l : Bs} (h : w.ownsRow base 5 1 v l.length (bc l)) : (convert 22 9 v).run Tryz.prog w = .ok (vs l) w := by
  rcases h.2 with ⟨rfl, h0⟩ | ⟨g, cap, cur, rfl, _⟩
  · have hl : l = [] := List.eq_nil_of_length_eq_zero (by simpa using h0)
    subst hl
    exact run_convert_bytes_nil w 22 5 Tryz.underlying22 Tryz.underlying5 _ _ 9 rfl
  · have hx := run_convert_bytes_arg (P := Tryz.prog) w 22 5 Tryz.underlying22 Tryz.underlying5 g 0 l.length cap (l.map fun b => (b.toNat : Int)) (by simp) (fun i hi => by
      have hc := World.ownsRow.cells h rfl i (.int .u8 ((l[i]).toNat : Int)) (by simp [List.getElem?_eq_getElem hi, bc])
      have hplain : (⟨g, 0, none⟩ : Addr).add i = ⟨g, 0 + i, none⟩ := by unfold Addr.add; split <;> simp_all
      rw [hplain] at hc
      rw [hc]
      simp [List.getD_eq_getElem?_getD, hi]) 9 rfl
    rw [hx]
    have e : strOfNums (l.map fun b => (b.toNat : Int)) = ⟨l.toArray⟩ := by
      unfold strOfNums
      simp [Function.comp_def]
    rw [e]
def lenAt (pb : Nat) (w : World) : Nat := match w.cell? ⟨pb, 0, none⟩ with
  | some (.string s) => s.size
  | _ => 0
theorem RB.lenAt {w : World} {rb : Nat} {L : Bs} {deep : Int} (h : RB w rb L deep) : lenAt rb w = L.length := by
  unfold J.lenAt
  rw [cells_of h.heap 0 (vs L) rfl]
  exact sz L
theorem row_at {w w' : World} {rb B : Nat} {e : TypeId} {v : Value} {n : Nat} {xs : List Value} (h : w.ownsRow B e 1 v n xs) (hA : At rb w w') (hB : rb < B) : w'.ownsRow B e 1 v n xs := by
  refine ⟨h.1, ?_⟩
  rcases h.2 with h | ⟨g, cap, cur, h0, h1, h2, h3⟩
  · exact .inl h
  · refine .inr ⟨g, cap, cur, h0, h1, ?_, h3⟩
    rw [hA.block g (lt_of_heap h2) (by omega)]
    exact h2
theorem strCells_bc (l : Bs) : Lib.strCells ⟨l.toArray⟩ = bc l := rfl
theorem textGo_at {acc L : Bs} (f : Nat) (hf : L.length < f) : textGo f acc L = textGo (L.length + 1) acc L := textGo_fuel _ _ _ _ hf (Nat.lt_succ_self _)
theorem textGo_e {acc L M m : Bs} (h : escP L = .ok (m, M)) : textGo ((92 :: L).length + 1) acc (92 :: L) = textGo (M.length + 1) (acc ++ m) M := by
  have := esc_less h
  rw [textGo_esc _ _ _ h, textGo_at _ (by simp; omega)]
theorem textGo_c {acc L : Bs} {c : UInt8} (h1 : c ≠ 34) (h2 : c ≠ 92) (h3 : ¬ (charN (c :: L) = 0 ∨ c.toNat < 32)) :
    textGo ((c :: L).length + 1) acc (c :: L) = textGo (((c :: L).drop (charN (c :: L))).length + 1) (acc ++ (c :: L).take (charN (c :: L))) ((c :: L).drop (charN (c :: L))) := by
  rw [textGo_chr _ _ _ _ h1 h2 (by omega) (by omega), textGo_at _ (by rw [List.length_drop]; simp; omega)]
theorem textGo_bad {acc L : Bs} {c : UInt8} (f : Nat) (h1 : c ≠ 34) (h2 : c ≠ 92) (h3 : charN (c :: L) = 0 ∨ c.toNat < 32) : textGo (f + 1) acc (c :: L) = .error 3 := by
  rw [textGo, if_neg (by simpa using h1), if_neg (by simpa using h2), if_pos h3]
theorem textGo_ebad {acc L : Bs} {d : Int} (f : Nat) (h : escP L = .error d) : textGo (f + 1) acc (92 :: L) = .error d := by
  rw [textGo, if_neg (by decide), if_pos (by decide), h]
theorem take34 (c : UInt8) (L : Bs) (q : UInt8) : takeB [q] (c :: L) = if c == q then (true, L) else (false, c :: L) := by
  rw [takeB_cons]
  by_cases h : c = q
  · subst h; simp
  · have h1 : (c == q) = false := by simpa using h
    have h2 : ([q] : Bs).contains c = false := by simp [h]
    rw [h1, h2]
theorem row_cells {w : World} {base : Nat} {v : Value} {m : Bs} (h : w.ownsRow base 5 1 v m.length (bc m)) (hm : m ≠ []) : ∃ a c, v = .slice (some a) m.length c ∧ ∀ j u, (bc m)[j]? = some u → w.cell? (a.add j) = some u := by
  rcases h.2 with ⟨rfl, h0⟩ | ⟨g, cap, cur, rfl, h1⟩
  · exact absurd (List.eq_nil_of_length_eq_zero h0) hm
  · exact ⟨_, _, rfl, fun j u hu => World.ownsRow.cells h rfl j u hu⟩
set_option maxRecDepth 100000 in
set_option maxHeartbeats 16000000 in
theorem text_calls {w : World} {rb : Nat} {L : Bs} {deep : Int} (h : RB w rb L deep) (ht : Tabs rb w) :
    Calls Tryz.prog 43 #[.pointer (some ⟨rb, 0, none⟩)] w (Ends rb deep w (fun _ t e => e = .returned (vs t)) (textP L)) := by
  obtain ⟨i0, hi, hz0, hz1, hz2⟩ := info_parts infoByte
  have HI := Lib.hid hi; clear hi
  have HZ0 := Lib.hid hz0; clear hz0
  have HZ1 := Lib.hid hz1; clear hz1
  have HZ2 := Lib.hid hz2; clear hz2
  have hrl := h.lt
  have HR := Lib.hid h
  have HTT := Lib.hid ht
  have HT0 := Lib.hid (take_calls h ⟨#[34]⟩ [34] rfl)
  have hlen := h.len
  clear h ht
  by_cases hq : ∃ M, L = 34 :: M
  rotate_left
  · have hT : takeB [34] L = (false, L) := by
      cases L with
      | nil => rfl
      | cons c L =>
        rw [take34]
        have : (c == 34) = false := by
          rw [beq_eq_false_iff_ne]
          rintro rfl
          exact hq ⟨_, rfl⟩
        rw [this]; rfl
    have HP := Lib.hid (show textP L = .error 3 by
      cases L with
      | nil => rfl
      | cons c L =>
        rw [textP_cons]
        have : (c == 34) = false := by
          rw [beq_eq_false_iff_ne]
          rintro rfl
          exact hq ⟨_, rfl⟩
        rw [this]; rfl)
    rw [hT] at HT0
    clear hT hq
    go_enter Tryz.func43, Tryz.ntmps43
    go_wp2_with fail
    refine HT0.out.mono ?_
    rintro e w1 ⟨rfl, hR, hA⟩
    have HA := Lib.hid hA
    clear hR hA
    go_wp2_with fail
    refine (must_false _).mono ?_
    rintro e w2 ⟨rfl, rfl⟩
    refine ⟨rfl, HA.out, ?_⟩
    rw [HP.out]
  obtain ⟨M, rfl⟩ := hq
  have HP := Lib.hid (show textP (34 :: M) = textGo (M.length + 1) [] M from rfl)
  rw [show takeB [34] (34 :: M) = (true, M) from rfl] at HT0
  have hml : M.length ≤ 1000000000 := by simp at hlen; omega
  clear hlen
  go_enter Tryz.func43, Tryz.ntmps43
  go_wp2_with fail
  refine HT0.out.mono ?_
  rintro e w1 ⟨rfl, hR, hA⟩
  have HR1 := Lib.hid hR
  have HA1 := Lib.hid hA
  clear hR hA HT0 HR
  go_wp2_with fail
  refine (must_true _).mono ?_
  rintro e w2 ⟨rfl, rfl⟩
  go_wp2_with fail
  go_loopw [3] (fun v3 wr => ∃ acc K : Bs, Hid (wr.ownsRow w.heap.size 5 1 v3 acc.length (bc acc)) ∧ Hid (RB wr rb K deep) ∧ Hid (At rb w wr) ∧ Hid (textGo (K.length + 1) acc K = textP (34 :: M)) ∧ acc.length + 4 * K.length ≤ 4000000000) (fun _ wr => lenAt rb wr)
  case atStart => exact ⟨[], M, Lib.hid (World.ownsRow_nil _ _ _ _), HR1, HA1, HP, by simp; omega⟩
  case round =>
    clear HR1 HA1
    obtain ⟨acc, K, HO, HR, HA, HG, hb⟩ := hrel
    have HTQ := Lib.hid (take_calls HR.out ⟨#[34]⟩ [34] rfl)
    have hle := HR.out.lenAt
    have hsz := sz K
    have HSZ := Lib.hid HA.out.size
    cases K with
    | nil =>
      rw [show takeB [34] ([] : Bs) = (false, []) from rfl] at HTQ
      have HE := Lib.hid (show textP (34 :: M) = .error 3 by rw [← HG.out]; rfl)
      go_wp2_with fail
      refine HTQ.out.mono ?_
      rintro e w3 ⟨rfl, hR, hA⟩
      have HR3 := Lib.hid hR
      have HA3 := Lib.hid (At.trans HA.out hA)
      clear hR hA
      go_wp2_with fail
      refine (take_calls HR3.out ⟨#[92]⟩ [92] rfl).mono ?_
      rintro e w4 ⟨he, hR, hA⟩
      rw [show takeB [92] ([] : Bs) = (false, []) from rfl] at he hR
      subst he
      obtain ⟨g0, g1, f0, f1⟩ := two_of hR.heap
      have HA4 := Lib.hid (At.trans HA3.out hA)
      have HTB := Lib.hid (HTT.out.at HA4.out)
      clear hR hA
      go_wp2_with fail
      refine (Tryz.utf8_DecodeRuneInString ⟨([] : Bs).toArray⟩ w4 HTB.out.1).mono ?_
      rintro e w5 ⟨rfl, hb5⟩
      rw [decodeGo_nil]
      have HB5 := Lib.hid hb5
      clear hb5
      go_wp2_with fail
      refine (must_false _).mono ?_
      rintro e w6 ⟨rfl, rfl⟩
      refine ⟨rfl, At.below HA4.out HB5.out, ?_⟩
      rw [HE.out]
    | cons c K =>
      rw [take34] at HTQ
      by_cases h34 : c = 34
      · subst h34
        rw [show ((34 : UInt8) == 34) = true from rfl, if_pos rfl] at HTQ
        have HE := Lib.hid (show textP (34 :: M) = .ok (acc, K) by rw [← HG.out]; rfl)
        go_wp2_with fail
        refine HTQ.out.mono ?_
        rintro e w3 ⟨rfl, hR, hA⟩
        have HR3 := Lib.hid hR
        have HA3 := Lib.hid (At.trans HA.out hA)
        have hcv := row_conv (row_at HO.out hA hrl)
        clear hR hA
        go_wp2
        go_ret
        rw [HE.out]
        exact ⟨HA3.out, rfl, HR3.out⟩
      rw [show (c == 34) = false by simpa using h34, if_neg (by decide)] at HTQ
      have HTQ34 : c ≠ 92 → (c == 92) = false := fun h => by simpa using h
      by_cases h92 : c = 92
      · subst h92
        cases he : escP K with
        | error d =>
          have HE := Lib.hid (show textP (34 :: M) = .error d by rw [← HG.out]; exact textGo_ebad _ he)
          have HEP := Lib.hid he
          clear he
          go_wp2_with fail
          refine HTQ.out.mono ?_
          rintro e w3 ⟨rfl, hR, hA⟩
          have HR3 := Lib.hid hR
          have HA3 := Lib.hid (At.trans HA.out hA)
          clear hR hA
          go_wp2_with fail
          refine (take_calls HR3.out ⟨#[92]⟩ [92] rfl).mono ?_
          rintro e w4 ⟨he, hR, hA⟩
          rw [take34, if_pos (by decide)] at he hR
          subst he
          have HR4 := Lib.hid hR
          have HA4 := Lib.hid (At.trans HA3.out hA)
          clear hR hA
          go_wp2_with fail
          refine (escape_calls HR4.out).mono ?_
          rintro e w5 ⟨hA, hM⟩
          rw [HEP.out] at hM
          have hM : e = .panicked (erChain d) := hM
          subst hM
          refine ⟨rfl, At.trans HA4.out hA, ?_⟩
          rw [HE.out]
        | ok p =>
          obtain ⟨m, N⟩ := p
          have HE := Lib.hid (show textGo (N.length + 1) (acc ++ m) N = textP (34 :: M) by rw [← HG.out]; exact (textGo_e he).symm)
          have HEP := Lib.hid he
          have hm4 := esc_len he
          have hmn := esc_less he
          have HMP := Lib.hid (esc_pos he)
          clear he
          go_wp2_with fail
          refine HTQ.out.mono ?_
          rintro e w3 ⟨rfl, hR, hA⟩
          have HR3 := Lib.hid hR
          have HA3 := Lib.hid (At.trans HA.out hA)
          have HO3 := Lib.hid (row_at HO.out hA hrl)
          clear hR hA
          go_wp2_with fail
          refine (take_calls HR3.out ⟨#[92]⟩ [92] rfl).mono ?_
          rintro e w4 ⟨he, hR, hA⟩
          rw [take34, if_pos (by decide)] at he hR
          subst he
          have HR4 := Lib.hid hR
          have HA4 := Lib.hid (At.trans HA3.out hA)
          have HO4 := Lib.hid (row_at HO3.out hA hrl)
          clear hR hA
          go_wp2_with fail
          refine (escape_calls HR4.out).mono ?_
          rintro e w5 ⟨hA, hM⟩
          rw [HEP.out] at hM
          have hM : BytesV w4 w5 m e ∧ RB w5 rb N deep := hM
          obtain ⟨⟨v, rfl, ho⟩, hR⟩ := hM
          have HR5 := Lib.hid hR
          have HA5 := Lib.hid (At.trans HA4.out hA)
          have HO5 := Lib.hid (row_at HO4.out hA hrl)
          obtain ⟨ad, cp, rfl, hc⟩ := row_cells ho HMP.out
          have HC := Lib.hid hc
          have HSZ5 := Lib.hid HA5.out.size
          clear hM hA hR ho hc
          go_wp2_with (at_builtin; refine wpList_append_own _ rfl _ _ 22 rfl w.heap.size 5 i0 (.int .u8 0) 1 1 Tryz.underlying22 HI.out HZ0.out HZ1.out HZ2.out rfl (by decide) _ _ _ rfl HO5.out ad m.length cp (bc m) rfl ?c0 ?c1 ?c2 ?c3 ?c4 ?c5 ?_)
          case c0 => simp
          case c1 => exact HC.out
          case c2 => intro u hu; simp at hu; obtain ⟨b, -, rfl⟩ := hu; rfl
          case c3 => unfold maxLen; simp at hb; omega
          case c4 => simp at hb; omega
          case c5 => exact HSZ5.out
          intro v6 w6 ho6 hg6 _
          have hT6 : Turn (fun k => k = rb) w w6 := Turn.trans HA5.out (Turn.grown (fp := fun k => w.heap.size ≤ k) hg6 (fun k hk => by
            rcases HO5.out.2 with ⟨rfl, -⟩ | ⟨g, cap, cur, rfl, h1, -⟩
            · cases hk
            · cases hk; exact h1)) (fun k hk hlt => by omega)
          have hR6 := HR5.out.kept (hg6.block rb HR5.out.lt (fun e => by
            rcases HO5.out.2 with ⟨rfl, -⟩ | ⟨g, cap, cur, rfl, h1, -⟩
            · cases e
            · have e : rb = g := Option.some.inj e
              omega))
          have HO6 := Lib.hid (show w6.ownsRow w.heap.size 5 1 v6 (acc ++ m).length (bc (acc ++ m)) by simpa using ho6)
          have HR6 := Lib.hid hR6
          have HA6 := Lib.hid hT6
          have hl6 := hR6.lenAt
          clear ho6 hg6 hT6 hR6
          go_wp2
          exact ⟨⟨acc ++ m, N, HO6, HR6, HA6, HE, by simp at hb ⊢; omega⟩, by rw [hl6, hle]; simp; omega⟩
      have HTN := Lib.hid (HTQ34 h92)
      clear HTQ34
      have hgo := decodeGo_cons c K
      have hw1 := Lib.decodeL_width (c :: K)
      have hru := Lib.decodeL_rune (c :: K)
      have hcl := charN_le (c :: K)
      have hdt := dec_test c K
      have hcn : ∀ k : Nat, 0 < charN (c :: K) → charN (c :: K) = (Lib.decodeL (c :: K)).2 := by
        intro _ hp
        unfold charN at hp ⊢
        rw [if_neg (by simp)] at hp ⊢
        split at hp
        · omega
        · rename_i hx; rw [if_neg hx]
      have HGO := Lib.hid hgo
      generalize Lib.decodeL (c :: K) = dl at *
      obtain ⟨R, Kn⟩ := dl
      dsimp only at hw1 hru hdt hcn HGO
      clear hgo
      by_cases hbad : charN (c :: K) = 0 ∨ c.toNat < 32
      · have HE := Lib.hid (show textP (34 :: M) = .error 3 by rw [← HG.out]; exact textGo_bad _ h34 h92 hbad)
        have hno := hdt.1 hbad
        clear hdt hcn hbad
        go_wp2_with fail
        refine HTQ.out.mono ?_
        rintro e w3 ⟨rfl, hR, hA⟩
        have HR3 := Lib.hid hR
        have HA3 := Lib.hid (At.trans HA.out hA)
        clear hR hA
        go_wp2_with fail
        refine (take_calls HR3.out ⟨#[92]⟩ [92] rfl).mono ?_
        rintro e w4 ⟨he, hR, hA⟩
        rw [take34, HTN.out, if_neg (by decide)] at he hR
        subst he
        obtain ⟨g0, g1, f0, f1⟩ := two_of hR.heap
        have HA4 := Lib.hid (At.trans HA3.out hA)
        have HTB := Lib.hid (HTT.out.at HA4.out)
        clear hR hA
        go_wp2_with fail
        refine (Tryz.utf8_DecodeRuneInString ⟨(c :: K).toArray⟩ w4 HTB.out.1).mono ?_
        rintro e w5 ⟨rfl, hb5⟩
        rw [HGO.out]
        have HB5 := Lib.hid hb5
        clear hb5
        have hk : (0 : Int) < (Kn : Int) := by omega
        by_cases hr32 : 32 ≤ R
        · have hr' : decide ((32 : Int) ≤ (R : Int)) = true := decide_eq_true (by omega)
          have hR65 : R = 65533 := by omega
          have hK1 : Kn = 1 := by omega
          subst hR65 hK1
          go_wp2_with fail
          refine (must_false _).mono ?_
          rintro e w6 ⟨rfl, rfl⟩
          refine ⟨rfl, At.below HA4.out HB5.out, ?_⟩
          rw [HE.out]
        · have hr' : decide ((32 : Int) ≤ (R : Int)) = false := decide_eq_false (by omega)
          clear hr32 hno
          go_wp2_with fail
          refine (must_false _).mono ?_
          rintro e w6 ⟨rfl, rfl⟩
          refine ⟨rfl, At.below HA4.out HB5.out, ?_⟩
          rw [HE.out]
      · have hyes : 32 ≤ R ∧ (R ≠ 65533 ∨ 1 < Kn) := by
          by_cases hx : 32 ≤ R ∧ (R ≠ 65533 ∨ 1 < Kn)
          · exact hx
          · exact absurd (hdt.2 hx) hbad
        have hkk := hcn 0 (by omega)
        have HE := Lib.hid (show textGo (((c :: K).drop Kn).length + 1) (acc ++ (c :: K).take Kn) ((c :: K).drop Kn) = textP (34 :: M) by rw [← HG.out, textGo_c h34 h92 hbad, hkk])
        rw [hkk] at hcl
        clear hdt hcn hbad hkk
        go_wp2_with fail
        refine HTQ.out.mono ?_
        rintro e w3 ⟨rfl, hR, hA⟩
        have HR3 := Lib.hid hR
        have HA3 := Lib.hid (At.trans HA.out hA)
        have HO3 := Lib.hid (row_at HO.out hA hrl)
        clear hR hA
        go_wp2_with fail
        refine (take_calls HR3.out ⟨#[92]⟩ [92] rfl).mono ?_
        rintro e w4 ⟨he, hR, hA⟩
        rw [take34, HTN.out, if_neg (by decide)] at he hR
        subst he
        obtain ⟨g0, g1, f0, f1⟩ := two_of hR.heap
        have HR4 := Lib.hid hR
        have HA4 := Lib.hid (At.trans HA3.out hA)
        have HTB := Lib.hid (HTT.out.at HA4.out)
        have HO4 := Lib.hid (row_at HO3.out hA hrl)
        clear hR hA
        go_wp2_with fail
        refine (Tryz.utf8_DecodeRuneInString ⟨(c :: K).toArray⟩ w4 HTB.out.1).mono ?_
        rintro e w5 ⟨rfl, hb5⟩
        rw [HGO.out]
        have HB5 := Lib.hid hb5
        have HR5 := Lib.hid (HR4.out.below hb5)
        have HA5 := Lib.hid (At.below HA4.out hb5)
        have HO5 := Lib.hid (row_at HO4.out (at_below hb5) hrl)
        obtain ⟨g0, g1, f0, f1⟩ := two_of HR5.out.heap
        clear hb5
        have hk : (0 : Int) < (Kn : Int) := by omega
        have hr' : decide ((32 : Int) ≤ (R : Int)) = true := decide_eq_true (by omega)
        have hkl : (Kn : Int) ≤ ((c :: K).length : Int) := by omega
        have HX1 := Lib.hid (ext_take (c :: K) Kn)
        have HX2 := Lib.hid (show (⟨(c :: K).toArray⟩ : ByteArray).extract Kn (K.length + 1) = ⟨((c :: K).drop Kn).toArray⟩ from ext_drop (c :: K) Kn _ rfl)
        have hlt : ((c :: K).take Kn).length = Kn := by rw [List.length_take]; omega
        have HLT := Lib.hid hlt
        have HSZ5 := Lib.hid HA5.out.size
        clear hlt
        by_cases hr65 : R = 65533
        · subst hr65
          have hk1 : (1 : Int) < (Kn : Int) := by omega
          go_wp2_with fail
          refine (must_true _).mono ?_
          rintro e w6 ⟨rfl, rfl⟩
          go_wp2_with (at_builtin; refine Lib.wpList_append_own_string _ rfl _ _ 22 9 rfl w.heap.size 5 i0 Tryz.underlying22 Tryz.underlying9 HI.out HZ0.out HZ1.out HZ2.out _ _ _ rfl HO5.out ((⟨(c :: K).toArray⟩ : ByteArray).extract 0 Kn) rfl ?c3 ?c4 ?c5 ?_)
          case c3 => rw [HX1.out, sz, HLT.out]; unfold maxLen; simp at hb; omega
          case c4 => rw [HX1.out, sz, HLT.out]; simp at hb; omega
          case c5 => exact HSZ5.out
          intro v6 w6 ho6 hg6 _
          rw [HX1.out, strCells_bc] at ho6
          have hT6 : Turn (fun k => k = rb) w w6 := Turn.trans HA5.out (Turn.grown (fp := fun k => w.heap.size ≤ k) hg6 (fun k hk => by
            rcases HO5.out.2 with ⟨rfl, -⟩ | ⟨g, cap, cur, rfl, h1, -⟩
            · cases hk
            · cases hk; exact h1)) (fun k hk hlt => by omega)
          have hR6 := HR5.out.kept (hg6.block rb HR5.out.lt (fun e => by
            rcases HO5.out.2 with ⟨rfl, -⟩ | ⟨g, cap, cur, rfl, h1, -⟩
            · cases e
            · have e : rb = g := Option.some.inj e
              omega))
          have HO6 := Lib.hid (show w6.ownsRow w.heap.size 5 1 v6 (acc ++ (c :: K).take Kn).length (bc (acc ++ (c :: K).take Kn)) by rw [List.length_append, List.length_take, List.length_cons, show bc (acc ++ (c :: K).take Kn) = bc acc ++ bc ((c :: K).take Kn) by simp]; exact ho6)
          have HA6 := Lib.hid hT6
          have HS6 := Lib.hid (hR6.set ((c :: K).drop Kn) (by rw [List.length_drop]; omega))
          obtain ⟨g0, g1, f0, f1⟩ := two_of hR6.heap
          have HLK := Lib.hid (hR6.set ((c :: K).drop Kn) (by rw [List.length_drop]; omega)).lenAt
          have HAX := Lib.hid (At.trans hT6 (at_set w6 rb 0 (vs ((c :: K).drop Kn))))
          have HOX := Lib.hid (row_at HO6.out (at_set w6 rb 0 (vs ((c :: K).drop Kn))) hrl)
          clear ho6 hg6 hT6 hR6
          go_wp2
          rw [HX2.out]
          exact ⟨⟨acc ++ (c :: K).take Kn, (c :: K).drop Kn, HOX, HS6, HAX, HE, by rw [List.length_append, HLT.out, List.length_drop]; simp at hb hcl ⊢; omega⟩, by rw [HLK.out, hle, List.length_drop]; simp; omega⟩
        · have hr66 : ((R : Int) != 65533) = true := by simpa using (by omega : ¬ (R : Int) = 65533)
          go_wp2_with fail
          refine (must_true _).mono ?_
          rintro e w6 ⟨rfl, rfl⟩
          go_wp2_with (at_builtin; refine Lib.wpList_append_own_string _ rfl _ _ 22 9 rfl w.heap.size 5 i0 Tryz.underlying22 Tryz.underlying9 HI.out HZ0.out HZ1.out HZ2.out _ _ _ rfl HO5.out ((⟨(c :: K).toArray⟩ : ByteArray).extract 0 Kn) rfl ?c3 ?c4 ?c5 ?_)
          case c3 => rw [HX1.out, sz, HLT.out]; unfold maxLen; simp at hb; omega
          case c4 => rw [HX1.out, sz, HLT.out]; simp at hb; omega
          case c5 => exact HSZ5.out
          intro v6 w6 ho6 hg6 _
          rw [HX1.out, strCells_bc] at ho6
          have hT6 : Turn (fun k => k = rb) w w6 := Turn.trans HA5.out (Turn.grown (fp := fun k => w.heap.size ≤ k) hg6 (fun k hk => by
            rcases HO5.out.2 with ⟨rfl, -⟩ | ⟨g, cap, cur, rfl, h1, -⟩
            · cases hk
            · cases hk; exact h1)) (fun k hk hlt => by omega)
          have hR6 := HR5.out.kept (hg6.block rb HR5.out.lt (fun e => by
            rcases HO5.out.2 with ⟨rfl, -⟩ | ⟨g, cap, cur, rfl, h1, -⟩
            · cases e
            · have e : rb = g := Option.some.inj e
              omega))
          have HO6 := Lib.hid (show w6.ownsRow w.heap.size 5 1 v6 (acc ++ (c :: K).take Kn).length (bc (acc ++ (c :: K).take Kn)) by rw [List.length_append, List.length_take, List.length_cons, show bc (acc ++ (c :: K).take Kn) = bc acc ++ bc ((c :: K).take Kn) by simp]; exact ho6)
          have HA6 := Lib.hid hT6
          have HS6 := Lib.hid (hR6.set ((c :: K).drop Kn) (by rw [List.length_drop]; omega))
          obtain ⟨g0, g1, f0, f1⟩ := two_of hR6.heap
          have HLK := Lib.hid (hR6.set ((c :: K).drop Kn) (by rw [List.length_drop]; omega)).lenAt
          have HAX := Lib.hid (At.trans hT6 (at_set w6 rb 0 (vs ((c :: K).drop Kn))))
          have HOX := Lib.hid (row_at HO6.out (at_set w6 rb 0 (vs ((c :: K).drop Kn))) hrl)
          clear ho6 hg6 hT6 hR6
          go_wp2
          rw [HX2.out]
          exact ⟨⟨acc ++ (c :: K).take Kn, (c :: K).drop Kn, HOX, HS6, HAX, HE, by rw [List.length_append, HLT.out, List.length_drop]; simp at hb hcl ⊢; omega⟩, by rw [HLK.out, hle, List.length_drop]; simp; omega⟩
end Go.Proofs.YtminegmjklehnaaGreatDoor.J

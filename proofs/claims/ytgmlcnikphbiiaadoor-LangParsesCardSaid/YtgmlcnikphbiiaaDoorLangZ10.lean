/-
  The document's tokens: sign, Tokens.
-/
import Derived.Test.YtgmlcnikphbiiaaDoorLangZ9
import Derived.Test.YtgmlcnikphbiiaaDoorLangX
import Derived.Test.YtgmlcnikphbiiaaDoorLangO
namespace Go.Proofs.YtgmlcnikphbiiaaDoor.L
open Go.RowKit Go.Proofs.YtgmlcnikphbiiaaDoor.B
open Go.Proofs.YtgmlcnikphbiiaaDoor.C (QRow Turn wpList_append_q)
set_option linter.unusedVariables false
set_option linter.unusedSimpArgs false

def signS (c : UInt8) : Bs := if signC c then [c] else [63]
def sgs : List UInt8 := [58, 124, 35, 43, 45, 38, 46, 40, 41]
theorem sgs_no {c : UInt8} (h : ∀ j, j < 9 → sgs[j]? ≠ some c) : signC c = false := by
  cases hc : signC c with
  | false => rfl
  | true =>
    have : c ∈ sgs := by unfold signC at hc; simpa [sgs] using hc
    obtain ⟨j, hj⟩ := List.mem_iff_getElem?.1 this
    have hl : j < 9 := (List.getElem?_eq_some_iff.1 hj).1
    exact absurd hj (h j hl)
theorem sgs_yes {c : UInt8} {j : Nat} (h : sgs[j]? = some c) : signC c = true := by
  have : c ∈ sgs := List.mem_of_getElem? h
  unfold signC
  simpa [sgs] using this
set_option maxRecDepth 100000 in
set_option maxHeartbeats 2000000 in
theorem rsign_calls (c : UInt8) (w : World) : Calls Tryd.prog 53 #[.int .u8 c.toNat] w fun e w' => e = .returned (vs (signS c)) ∧ w' = w := by
  go_enter Tryd.func53, Tryd.ntmps53
  go_wp2
  go_loop [4] (fun v4 => ∃ k : Nat, k ≤ 9 ∧ v4 = .int .i64 k ∧ Asd (∀ j, j < k → sgs[j]? ≠ some c)) (fun v4 => 9 - (intOf v4).toNat)
  case atStart => exact ⟨0, by omega, rfl, ⟨fun j hj => by omega⟩⟩
  case round =>
    obtain ⟨k, hk, rfl, ha⟩ := hrel
    by_cases h9 : k < 9
    · have hk9 : k = 0 ∨ k = 1 ∨ k = 2 ∨ k = 3 ∨ k = 4 ∨ k = 5 ∨ k = 6 ∨ k = 7 ∨ k = 8 := by omega
      have HC : ∃ d : UInt8, sgs[k]? = some d := ⟨sgs[k]'(by simpa [sgs] using h9), List.getElem?_eq_getElem _⟩
      obtain ⟨d, hd⟩ := HC
      have HD := Lib.hid hd
      by_cases hcd : c = d
      · have HS := Lib.hid (show signS c = [d] by unfold signS; rw [sgs_yes (j := k) (by rw [hd, hcd]), if_pos rfl, hcd])
        subst hcd
        clear hd ha hk h9
        rcases hk9 with rfl | rfl | rfl | rfl | rfl | rfl | rfl | rfl | rfl
        all_goals
          (have hd := HD.out
           simp only [sgs, List.getElem?_cons_zero, List.getElem?_cons_succ, Option.some.injEq] at hd
           subst hd
           clear HD
           go_wp2
           go_ret
           exact ⟨by rw [HS.out]; rfl, rfl⟩)
      · have HNE := Lib.hid (show ∀ j, j < k + 1 → sgs[j]? ≠ some c from fun j hj => by
          by_cases e : j = k
          · subst e; rw [hd]; intro h; exact hcd (Option.some.inj h).symm
          · exact ha.out j (by omega))
        have hcn : (c.toNat : Int) ≠ (d.toNat : Int) := fun e => hcd (UInt8.toNat_inj.1 (by omega))
        have HB := Lib.hid (show ∀ h : k < (⟨#[58, 124, 35, 43, 45, 38, 46, 40, 41]⟩ : ByteArray).size, ((((⟨#[58, 124, 35, 43, 45, 38, 46, 40, 41]⟩ : ByteArray)[k]'h).toNat : Int) == (c.toNat : Int)) = false from fun h => by
          have : (⟨#[58, 124, 35, 43, 45, 38, 46, 40, 41]⟩ : ByteArray)[k]'h = d := by
            have h2 : sgs[k]? = some ((⟨#[58, 124, 35, 43, 45, 38, 46, 40, 41]⟩ : ByteArray)[k]'h) := by
              rw [List.getElem?_eq_getElem (by simpa [sgs] using h9)]; rfl
            exact Option.some.inj (h2.symm.trans hd)
          rw [this]
          exact beq_eq_false_iff_ne.2 (Ne.symm hcn))
        clear hd ha hcd
        rcases hk9 with rfl | rfl | rfl | rfl | rfl | rfl | rfl | rfl | rfl
        all_goals
          (have e3 := HB.out (by decide)
           clear HB HD hcn
           go_wp2
           exact ⟨⟨_, by omega, by go_num, ⟨HNE.out⟩⟩, by simp [intOf]⟩)
    · have HE := Lib.hid (sgs_no (c := c) (fun j hj => ha.out j (by omega)))
      have hk9 : k = 9 := by omega
      subst hk9
      go_wp2
      go_ret
      exact ⟨by unfold signS; rw [HE.out]; rfl, rfl⟩
theorem info67 : (Tryd.prog.info? 67).map (fun i => (i.zero, i.size, i.bytes)) = some (some (.agg #[.string ByteArray.empty, .int .i64 0, .int .i64 0]), 3, 32) := by kernel_rfl
theorem ext_mid (l : Bs) (i k : Nat) : (⟨l.toArray⟩ : ByteArray).extract i (i + k) = ⟨((l.drop i).take k).toArray⟩ := by
  apply ByteArray.ext
  apply Array.ext'
  simp [ByteArray.data_extract]
theorem cell_list_new (w : World) (xs : List Value) (t : TypeId) : ∀ j u, xs[j]? = some u → (w.alloc (.cells xs.toArray t)).cell? ((⟨w.heap.size, 0, none⟩ : Addr).add j) = some u := by
  intro j u h
  have hg := heap_alloc_new w (.cells xs.toArray t)
  rw [Addr.add_lit, Nat.zero_add, cell_of_row _ _ _ _ _ (0, 0) hg]
  simpa using h
theorem u8ne {c d : UInt8} (h : c ≠ d) : ((c.toNat : Int) == (d.toNat : Int)) = false := beq_eq_false_iff_ne.2 (fun e => h (UInt8.toNat_inj.1 (by omega)))
/-- between two tokens. -/
def TkI (l : Bs) (w : World) (k : Nat) (v3 v4 v5 v6 : Value) (wr : World) : Prop :=
  ∃ (acc : List Tk) (i : Nat) (line col : Int) (A : Option Addr) (c : Nat), v3 = .slice A acc.length c ∧ v4 = .int .i64 line ∧ v5 = .int .i64 col ∧ v6 = .int .i64 i ∧ i ≤ l.length ∧ Hid (tokens l 1 1 = acc ++ tokens (l.drop i) line col) ∧
    (0 ≤ line ∧ line ≤ i + 1 ∧ 0 ≤ col ∧ col ≤ i + 1) ∧ acc.length ≤ i ∧ k = l.length - i ∧ Hid (Below w.heap.size w wr ∧ OwnL wr 67 3 TkR (.slice A acc.length c) acc ∧ (∀ g, (Value.slice A acc.length c).ownBlock = some g → w.heap.size ≤ g))
theorem tk_push {w wr w6 : World} {acc : List Tk} {A A' : Option Addr} {c c' : Nat} {t : Tk} {css : List (List Value)} (hB : Below w.heap.size w wr) (hblk : ∀ g, (Value.slice A acc.length c).ownBlock = some g → w.heap.size ≤ g)
    (hc1 : ∀ c ∈ css, c.length = 3) (hc3 : All2 TkR acc css) (hq : QRow w6 67 3 (.slice A' (acc.length + 1) c') (acc.length + 1) (css.flatten ++ [vs t.s, .int .i64 t.line, .int .i64 t.col]))
    (hg : (wr.alloc (.cells #[vs t.s, .int .i64 t.line, .int .i64 t.col] 67)).grownBy w6 (Value.slice A acc.length c).ownBlock)
    (hb : ∀ g, (Value.slice A' (acc.length + 1) c').ownBlock = some g → (Value.slice A acc.length c).ownBlock = some g ∨ wr.heap.size + 1 ≤ g) :
    Below w.heap.size w w6 ∧ OwnL w6 67 3 TkR (.slice A' (acc ++ [t]).length c') (acc ++ [t]) ∧ (∀ g, (Value.slice A' (acc ++ [t]).length c').ownBlock = some g → w.heap.size ≤ g) := by
  have hlen : (acc ++ [t]).length = acc.length + 1 := by simp
  have hs := hB.size
  have hT : Turn (fun b => w.heap.size ≤ b) wr w6 := Turn.trans (Turn.alloc (fp := fun b => w.heap.size ≤ b) wr _) (Turn.grown (fp := fun b => w.heap.size ≤ b) hg hblk) (fun k hk _ => hk)
  rw [hlen]
  exact ⟨hB.trans (Turn.below hT hs (fun k hk e => by omega)), OwnL.snoc (w := w6) (v := .slice none 0 0) hc1 hc3 (c := [vs t.s, .int .i64 t.line, .int .i64 t.col]) rfl (fun _ _ h => h) rfl hq, fun g hg => by
    rcases hb g hg with h | h
    · exact hblk g h
    · omega⟩
def TkRet (w : World) (L : List Tk) (e : Ending) (w' : World) : Prop := ∃ A c, e = .returned (.slice A L.length c) ∧ Below w.heap.size w w' ∧ OwnL w' 67 3 TkR (.slice A L.length c) L ∧ (∀ g, (Value.slice A L.length c).ownBlock = some g → w.heap.size ≤ g)
set_option maxRecDepth 100000 in
set_option maxHeartbeats 8000000 in
theorem Tokens_calls (l : Bs) (hl : l.length ≤ 4096) (w : World) : Calls Tryd.prog 25 #[vs l] w (TkRet w (tokens l 1 1)) := by
  obtain ⟨i0, hi, hz0, hz1, hz2⟩ := info_parts info67
  have HI := Lib.hid hi
  have HZ0 := Lib.hid hz0
  have HZ1 := Lib.hid hz1
  have HZ2 := Lib.hid hz2
  clear hi hz0 hz1 hz2
  have hsz := sz l
  go_enter Tryd.func25, Tryd.ntmps25
  go_wp2_with fail
  go_loopg [3, 4, 5, 6] l.length (fun k v3 v4 v5 v6 wr => TkI l w k v3 v4 v5 v6 wr)
  case atStart => exact ⟨[], 0, 1, 1, none, 0, rfl, rfl, rfl, rfl, Nat.zero_le _, Lib.hid rfl, by omega, Nat.le_refl _, rfl, Lib.hid ⟨Below.refl _ _, OwnL.nil _ _ _ _, fun g hg => by cases hg⟩⟩
  case round =>
    obtain ⟨acc, i, line, col, A, c, rfl, rfl, rfl, rfl, hil, HTK, ⟨hb1, hb2, hb3, hb4⟩, hacc, hgk, HM⟩ := hrel
    have HGK := Lib.hid hgk
    clear hgk
    by_cases hlt : i < l.length
    · obtain ⟨ch, hch⟩ : ∃ ch, l[i] = ch := ⟨_, rfl⟩
      have hix : ∀ h, (⟨l.toArray⟩ : ByteArray)[i]'h = ch := fun h => hch
      have HDR := Lib.hid (show l.drop i = ch :: l.drop (i + 1) by rw [List.drop_eq_getElem_cons hlt, hch])
      have hu : (0 : Int) ≤ (ch.toNat : Int) := by omega
      have hu2 : (ch.toNat : Int) ≤ 255 := by have := ch.toNat_lt; omega
      clear hch
      by_cases h10 : ch = 10
      · subst h10
        have HN := Lib.hid (show tokens l 1 1 = acc ++ tokens (l.drop (i + 1)) (line + 1) 1 by rw [HTK.out, HDR.out, tokens_nl])
        go_wp2
        go_roundg (l.length - (i + 1))
        case measure => have := HGK.out; omega
        case rel => exact ⟨acc, i + 1, line + 1, 1, A, c, rfl, rfl, rfl, by go_num, by omega, HN, by omega, by omega, rfl, HM⟩
      have t10 : ((ch.toNat : Int) == 10) = false := u8ne h10
      have e10 : (ch == 10) = false := by simpa using h10
      by_cases hsp : ch = 32 ∨ ch = 9
      · have hspc : spaceC ch = true := by rcases hsp with rfl | rfl <;> rfl
        have HN := Lib.hid (show tokens l 1 1 = acc ++ tokens (l.drop (i + 1)) line (col + 1) by rw [HTK.out, HDR.out, tokens_space ch _ _ _ hspc e10])
        clear e10 hspc h10
        rcases hsp with rfl | rfl
        all_goals
          go_wp2
          go_roundg (l.length - (i + 1))
          case measure => have := HGK.out; omega
          case rel => exact ⟨acc, i + 1, line, col + 1, A, c, rfl, rfl, rfl, by go_num, by omega, HN, by omega, by omega, rfl, HM⟩
      have t32 : ((ch.toNat : Int) == 32) = false := u8ne (fun e => hsp (.inl e))
      have t9 : ((ch.toNat : Int) == 9) = false := u8ne (fun e => hsp (.inr e))
      have hnsp : spaceC ch = false := by
        unfold spaceC
        simp
        exact ⟨fun e => hsp (.inl e), fun e => hsp (.inr e), h10⟩
      have HTT := Lib.hid (show tokens l 1 1 = acc ++ (if tokN (l.drop i) = 0 then [⟨[63], line, col⟩] else ⟨(l.drop i).take (tokN (l.drop i)), line, col⟩ :: tokens ((l.drop i).drop (tokN (l.drop i))) line (col + tokN (l.drop i))) by
        rw [HTK.out]
        conv => lhs; rw [HDR.out]
        rw [tokens_tok ch _ _ _ hnsp, HDR.out])
      clear hsp h10 e10 hnsp
      have HW := Lib.hid (fun W => rword_calls ((⟨l.toArray⟩ : ByteArray).extract i l.length) (by rw [ext_drop l i _ rfl, sz, List.length_drop]; omega) W)
      have HWN := Lib.hid (show wordN ((⟨l.toArray⟩ : ByteArray).extract i l.length).data.toList = wordN (l.drop i) by rw [ext_drop l i _ rfl])
      go_wp2_with fail
      refine (HW.out wr).mono ?_
      rintro e wr ⟨rfl, rfl⟩
      rw [HWN.out]
      have hwl := wordN_le (l.drop i)
      rw [List.length_drop] at hwl
      obtain ⟨n, hn⟩ : ∃ n, wordN (l.drop i) = n := ⟨_, rfl⟩
      rw [hn] at hwl ⊢
      have HNN := Lib.hid hn
      clear hn
      by_cases hn0 : 0 < n
      · have htok : tokN (l.drop i) = n := by
          rw [HDR.out]
          exact tokN_word (by rw [← HDR.out]; exact HNN.out) hn0
        have hmid := ext_mid l i n
        have hne := not_q (c := ch) (r := l.drop (i + 1)) (n := n) (by rw [← HDR.out]; exact htok) hn0
        rw [← HDR.out] at hne
        have hqe : (((l.drop i).take n) == [63]) = false := by
          cases hx : ((l.drop i).take n) == [63]
          · rfl
          · exact absurd (eq_of_beq hx) hne.2
        have HN := Lib.hid (show tokens l 1 1 = (acc ++ [⟨(l.drop i).take n, line, col⟩]) ++ tokens (l.drop (i + n)) line (col + n) by
          rw [HTT.out, htok, if_neg (by omega), List.drop_drop]; simp)
        have hnz : ((n : Int) == 0) = false := by simp; omega
        clear htok hne
        generalize hq0 : (l.drop i).take n = q at *
        clear hq0
        obtain ⟨css, hc1, hc2, hc3⟩ := HM.out.2.1
        have HQ := Lib.hid (hc2.kept (w' := wr.alloc (.cells #[vs q, .int .i64 line, .int .i64 col] 67)) (fun g hg => alloc_old _ (hc2.block_lt hg)))
        have HC := Lib.hid (And.intro hc1 hc3)
        clear hc1 hc2 hc3
        go_wp2_with (at_builtin; go_loud (refine wpList_append_q rfl _ _ 59 rfl 67 i0 _ 3 32 Tryd.underlying59 HI.out HZ0.out HZ1.out HZ2.out rfl (by decide) _ acc.length _ rfl HQ.out ⟨wr.heap.size, 0, none⟩ 1 1 [vs q, .int .i64 line, .int .i64 col] rfl rfl (cell_list_new wr _ _) (by intro u hu; simp at hu; rcases hu with rfl | rfl | rfl <;> rfl) (by unfold maxLen; omega) (by omega) ?_))
        intro v6 w6 hq hg hbk
        obtain ⟨A', c', rfl⟩ := QRow.form hq
        have hP := tk_push (t := ⟨q, line, col⟩) HM.out.1 HM.out.2.2 HC.out.1 HC.out.2 hq hg hbk
        have HP := Lib.hid hP
        clear hq hg hbk hP
        go_wp2
        go_roundg (l.length - (i + n))
        case measure => have := HGK.out; omega
        case rel => exact ⟨acc ++ [⟨q, line, col⟩], i + n, line, col + n, A', c', (by simp), rfl, rfl, by go_num, by omega, HN, by omega, by simp; omega, rfl, HP⟩
      · have hn00 : n = 0 := by omega
        subst hn00
        have HSG := Lib.hid (rsign_calls ch)
        have htok : tokN (l.drop i) = if signC ch then 1 else 0 := by
          rw [HDR.out]
          exact tokN_sign (by rw [← HDR.out]; exact HNN.out)
        have hS : ∃ q, signS ch = q := ⟨_, rfl⟩
        obtain ⟨q, hq0⟩ := hS
        have HQ0 := Lib.hid hq0
        have hql : q.length = 1 := by rw [← hq0]; unfold signS; split <;> rfl
        cases hsc : signC ch with
        | true =>
          rw [hsc, if_pos rfl] at htok
          have hq1 : q = [ch] := by rw [← hq0]; unfold signS; rw [hsc]; rfl
          have hqe : (q == [63]) = false := by
            rw [hq1]
            cases hx : ([ch] : Bs) == [63]
            · rfl
            · have := eq_of_beq hx
              simp at this
              rw [this] at hsc; cases hsc
          have HN := Lib.hid (show tokens l 1 1 = (acc ++ [⟨q, line, col⟩]) ++ tokens (l.drop (i + 1)) line (col + 1) by
            rw [HTT.out, htok, if_neg (by omega), List.drop_drop, HDR.out, hq1]; simp)
          clear htok hsc hq0 hq1
          obtain ⟨css, hc1, hc2, hc3⟩ := HM.out.2.1
          have HQ := Lib.hid (hc2.kept (w' := wr.alloc (.cells #[vs q, .int .i64 line, .int .i64 col] 67)) (fun g hg => alloc_old _ (hc2.block_lt hg)))
          have HC := Lib.hid (And.intro hc1 hc3)
          clear hc1 hc2 hc3
          go_wp2_with fail
          refine (HSG.out wr).mono ?_
          rintro e wr ⟨rfl, rfl⟩
          rw [HQ0.out]
          go_wp2_with (at_builtin; go_loud (refine wpList_append_q rfl _ _ 59 rfl 67 i0 _ 3 32 Tryd.underlying59 HI.out HZ0.out HZ1.out HZ2.out rfl (by decide) _ acc.length _ rfl HQ.out ⟨wr.heap.size, 0, none⟩ 1 1 [vs q, .int .i64 line, .int .i64 col] rfl rfl (cell_list_new wr _ _) (by intro u hu; simp at hu; rcases hu with rfl | rfl | rfl <;> rfl) (by unfold maxLen; omega) (by omega) ?_))
          intro v6 w6 hq hg hbk
          obtain ⟨A', c', rfl⟩ := QRow.form hq
          have hP := tk_push (t := ⟨q, line, col⟩) HM.out.1 HM.out.2.2 HC.out.1 HC.out.2 hq hg hbk
          have HP := Lib.hid hP
          clear hq hg hbk hP
          go_wp2
          go_roundg (l.length - (i + 1))
          case measure => have := HGK.out; omega
          case rel => exact ⟨acc ++ [⟨q, line, col⟩], i + 1, line, col + 1, A', c', (by simp), rfl, rfl, by go_num, by omega, HN, by omega, by simp; omega, rfl, HP⟩
        | false =>
          rw [hsc, if_neg (by simp)] at htok
          have hq1 : q = [63] := by rw [← hq0]; unfold signS; rw [hsc]; rfl
          subst hq1
          have HN := Lib.hid (show tokens l 1 1 = acc ++ [⟨[63], line, col⟩] by rw [HTT.out, htok, if_pos rfl])
          clear htok hsc hq0
          obtain ⟨css, hc1, hc2, hc3⟩ := HM.out.2.1
          have HQ := Lib.hid (hc2.kept (w' := wr.alloc (.cells #[vs [63], .int .i64 line, .int .i64 col] 67)) (fun g hg => alloc_old _ (hc2.block_lt hg)))
          have HC := Lib.hid (And.intro hc1 hc3)
          clear hc1 hc2 hc3
          go_wp2_with fail
          refine (HSG.out wr).mono ?_
          rintro e wr ⟨rfl, rfl⟩
          rw [HQ0.out]
          go_wp2_with (at_builtin; go_loud (refine wpList_append_q rfl _ _ 59 rfl 67 i0 _ 3 32 Tryd.underlying59 HI.out HZ0.out HZ1.out HZ2.out rfl (by decide) _ acc.length _ rfl HQ.out ⟨wr.heap.size, 0, none⟩ 1 1 [vs [63], .int .i64 line, .int .i64 col] rfl rfl (cell_list_new wr _ _) (by intro u hu; simp at hu; rcases hu with rfl | rfl | rfl <;> rfl) (by unfold maxLen; omega) (by omega) ?_))
          intro v6 w6 hq hg hbk
          obtain ⟨A', c', rfl⟩ := QRow.form hq
          have hP := tk_push (t := ⟨[63], line, col⟩) HM.out.1 HM.out.2.2 HC.out.1 HC.out.2 hq hg hbk
          have HP := Lib.hid hP
          clear hq hg hbk hP
          go_wp2
          go_ret
          rw [HN.out]
          exact ⟨A', c', by simp, HP.out.1, HP.out.2.1, HP.out.2.2⟩
    · have hin : i = l.length := by omega
      have HN := Lib.hid (show tokens l 1 1 = acc ++ [⟨[], line, col⟩] by rw [HTK.out, List.drop_of_length_le (by omega), tokens_nil])
      obtain ⟨css, hc1, hc2, hc3⟩ := HM.out.2.1
      have HQ := Lib.hid (hc2.kept (w' := wr.alloc (.cells #[vs [], .int .i64 line, .int .i64 col] 67)) (fun g hg => alloc_old _ (hc2.block_lt hg)))
      have HC := Lib.hid (And.intro hc1 hc3)
      clear hc1 hc2 hc3
      go_wp2_with (at_builtin; go_loud (refine wpList_append_q rfl _ _ 59 rfl 67 i0 _ 3 32 Tryd.underlying59 HI.out HZ0.out HZ1.out HZ2.out rfl (by decide) _ acc.length _ rfl HQ.out ⟨wr.heap.size, 0, none⟩ 1 1 [vs [], .int .i64 line, .int .i64 col] rfl rfl (cell_list_new wr _ _) (by intro u hu; simp at hu; rcases hu with rfl | rfl | rfl <;> rfl) (by unfold maxLen; omega) (by omega) ?_))
      intro v6 w6 hq hg hbk
      obtain ⟨A', c', rfl⟩ := QRow.form hq
      have hP := tk_push (t := ⟨[], line, col⟩) HM.out.1 HM.out.2.2 HC.out.1 HC.out.2 hq hg hbk
      have HP := Lib.hid hP
      clear hq hg hbk hP
      go_wp2
      go_ret
      rw [HN.out]
      exact ⟨A', c', by simp, HP.out.1, HP.out.2.1, HP.out.2.2⟩
end Go.Proofs.YtgmlcnikphbiiaaDoor.L

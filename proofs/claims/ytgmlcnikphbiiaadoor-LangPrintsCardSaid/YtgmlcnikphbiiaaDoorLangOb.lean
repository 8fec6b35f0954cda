/-
  The statements' own count: weight, Few: plain, and walked.
-/
import Derived.Test.YtgmlcnikphbiiaaDoorLangPo
namespace Go.Proofs.YtgmlcnikphbiiaaDoor.L
open Go.RowKit Go.Proofs.YtgmlcnikphbiiaaDoor.B Go.Proofs.YtgmlcnikphbiiaaDoor.S10 Go.Proofs.YtgmlcnikphbiiaaDoor.Nm
open Go.Proofs.YtgmlcnikphbiiaaDoor.C (QRow Turn)
set_option linter.unusedVariables false
set_option linter.unusedSimpArgs false

def wTo {n : Nat} (f : Fin n → Int → Int) : Nat → Int → Int
  | 0, m => m
  | k + 1, m => if 0 < wTo f k m then (if h : k < n then f ⟨k, h⟩ (wTo f k m) else wTo f k m) else wTo f k m
def weightE : Ex → Int → Int
  | .mk _ _ _ n kid, m => if m < (n : Int) then 0 else wTo (fun i => weightE (kid i)) n (m - 1)
theorem weightE_eq (k : Int) (a b : Bs) (n : Nat) (kid : Fin n → Ex) (m : Int) : weightE (.mk k a b n kid) m = if m < (n : Int) then 0 else wTo (fun i => weightE (kid i)) n (m - 1) := rfl
theorem wTo_on {n : Nat} (f : Fin n → Int → Int) {k : Nat} {m q : Int} (h : k < n) (hq : wTo f k m = q) (h0 : 0 < q) : wTo f (k + 1) m = f ⟨k, h⟩ q := by
  rw [wTo, hq, if_pos h0, dif_pos h]
theorem wTo_stop {n : Nat} (f : Fin n → Int → Int) {k : Nat} {m : Int} (h0 : ¬ 0 < wTo f k m) : ∀ j, k ≤ j → wTo f j m = wTo f k m
  | 0, h => by obtain rfl : k = 0 := by omega
               rfl
  | j + 1, h => by
    by_cases e : k = j + 1
    · rw [e]
    · have := wTo_stop f h0 j (by omega)
      rw [wTo, this, if_neg h0]
theorem wTo_bound {n : Nat} (f : Fin n → Int → Int) (hf : ∀ i q, 0 < q → 0 ≤ f i q ∧ f i q ≤ q - 1) (m : Int) : ∀ k, (0 ≤ m → 0 ≤ wTo f k m) ∧ wTo f k m ≤ m ∧ (m ≤ 0 → wTo f k m = m)
  | 0 => ⟨fun h => h, Int.le_refl _, fun _ => rfl⟩
  | k + 1 => by
    obtain ⟨h1, h2, h3⟩ := wTo_bound f hf m k
    rw [wTo]
    split
    · rename_i hp
      split
      · rename_i hk
        have := hf ⟨k, hk⟩ _ hp
        refine ⟨fun _ => by omega, by omega, fun h => by have := h3 h; omega⟩
      · exact ⟨h1, h2, h3⟩
    · exact ⟨h1, h2, h3⟩
theorem weightE_bound : ∀ (e : Ex) (m : Int), 0 < m → 0 ≤ weightE e m ∧ weightE e m ≤ m - 1
  | .mk k a b n kid, m, hm => by
    rw [weightE_eq]
    split
    · omega
    · obtain ⟨h1, h2, -⟩ := wTo_bound (fun i => weightE (kid i)) (fun i q hq => weightE_bound (kid i) q hq) (m - 1) n
      exact ⟨h1 (by omega), h2⟩
theorem weightE_low (e : Ex) (m : Int) (hm : ¬ 0 < m) : weightE e m ≤ 0 ∧ -1 ≤ weightE e m := by
  obtain ⟨k, a, b, n, kid⟩ := e
  rw [weightE_eq]
  split
  · omega
  · obtain ⟨-, h2, h3⟩ := wTo_bound (fun i => weightE (kid i)) (fun i q hq => weightE_bound (kid i) q hq) (m - 1) n
    have := h3 (by omega)
    omega
/-- what is counted is as high at most. -/
theorem weightE_height : ∀ (e : Ex) (m : Int), 0 < weightE e m → e.height + weightE e m ≤ m
  | .mk k a b n kid, m, h => by
    rw [Ex.height_mk]
    rw [weightE_eq] at h ⊢
    split at h
    · omega
    rename_i hn
    rw [if_neg hn]
    have key : ∀ j, 0 < wTo (fun i => weightE (kid i)) j (m - 1) → maxTo (fun i => (kid i).height) j + wTo (fun i => weightE (kid i)) j (m - 1) ≤ m - 1 := by
      intro j
      induction j with
      | zero => intro _; show 0 + (m - 1) ≤ m - 1; omega
      | succ j ih =>
        intro hj
        by_cases h0 : 0 < wTo (fun i => weightE (kid i)) j (m - 1)
        · have h1 := ih h0
          by_cases hk : j < n
          · rw [wTo_on _ hk rfl h0] at hj ⊢
            rw [maxTo_step _ hk]
            have h2 := weightE_height (kid ⟨j, hk⟩) _ hj
            have h3 := weightE_bound (kid ⟨j, hk⟩) _ h0
            have h4 := (wTo_bound (fun i => weightE (kid i)) (fun i q hq => weightE_bound (kid i) q hq) (m - 1) j).2.1
            omega
          · rw [wTo, if_pos h0, dif_neg hk] at hj ⊢
            rw [maxTo, dif_neg hk]
            exact h1
        · rw [wTo_stop _ h0 (j + 1) (by omega)] at hj
          exact absurd hj h0
    have := key n h
    omega
/-! ### a schema's count -/
def fewRs (most : Int) : List Rl → Int → Option Int
  | [], q => some q
  | r :: rs, q => if 0 < q then (if most < (r.refs.length : Int) ∨ 100 < r.name.length then none else fewRs most rs (weightE r.ex (q - r.refs.length))) else some q
def fewTs (most : Int) : List Ty → Int → Option Int
  | [], q => some q
  | t :: ts, q => if 0 < q then (if 100 < t.name.length then none else (fewRs most t.rels q).bind (fewTs most ts)) else some q
def fewIn (most : Int) (rs : List Rl) (q : Int) (ts : List Ty) : Option Int := (fewRs most rs q).bind (fewTs most ts)
def fewO : Option Int → Bool
  | none => false
  | some q => decide (0 < q)
def fewP (ts : List Ty) (most : Int) : Bool := fewO (fewTs most ts (most - ts.length))
theorem fewTs_bad {most : Int} {t : Ty} {ts : List Ty} {q : Int} (h : 0 < q) (hn : 100 < t.name.length) : fewTs most (t :: ts) q = none := by rw [fewTs, if_pos h, if_pos hn]
theorem fewTs_on {most : Int} {t : Ty} {ts : List Ty} {q : Int} (h : 0 < q) (hn : ¬ 100 < t.name.length) : fewTs most (t :: ts) q = fewIn most t.rels q ts := by rw [fewTs, if_pos h, if_neg hn, fewIn]
theorem fewTs_stop {most : Int} {ts : List Ty} {q : Int} (h : ¬ 0 < q) : fewTs most ts q = some q := by
  cases ts
  · rfl
  · rw [fewTs, if_neg h]
theorem fewIn_nil {most : Int} {ts : List Ty} {q : Int} : fewIn most [] q ts = fewTs most ts q := rfl
theorem fewIn_stop {most : Int} {rs : List Rl} {ts : List Ty} {q : Int} (h : ¬ 0 < q) : fewIn most rs q ts = fewTs most ts q := by
  unfold fewIn
  cases rs
  · rfl
  · rw [fewRs, if_neg h]; rfl
theorem fewIn_bad {most : Int} {r : Rl} {rs : List Rl} {ts : List Ty} {q : Int} (h : 0 < q) (hb : most < (r.refs.length : Int) ∨ 100 < r.name.length) : fewIn most (r :: rs) q ts = none := by
  unfold fewIn; rw [fewRs, if_pos h, if_pos hb]; rfl
theorem fewIn_on {most : Int} {r : Rl} {rs : List Rl} {ts : List Ty} {q : Int} (h : 0 < q) (h1 : ¬ most < (r.refs.length : Int)) (h2 : ¬ 100 < r.name.length) : fewIn most (r :: rs) q ts = fewIn most rs (weightE r.ex (q - r.refs.length)) ts := by
  unfold fewIn; rw [fewRs, if_pos h, if_neg (by omega)]
theorem drop_at {α : Type} (xs : List α) (d : α) {j : Nat} (h : j < xs.length) : xs.drop j = xs.getD j d :: xs.drop (j + 1) := by
  rw [List.getD_eq_getElem?_getD, List.getElem?_eq_getElem h]
  exact List.drop_eq_getElem_cons h
/-- what is known of a schema that is few. -/
structure FewR (most : Int) (r : Rl) : Prop where
  name : r.name.length ≤ 100
  refs : (r.refs.length : Int) ≤ most
  high : r.ex.height ≤ most
theorem fewRs_known {most : Int} : ∀ (rs : List Rl) (q q2 : Int), fewRs most rs q = some q2 → 0 < q2 → q ≤ most → (rs.length : Int) + q2 ≤ q ∧ ∀ r ∈ rs, FewR most r
  | [], q, q2, h, h0, hm => by cases h; exact ⟨by simp, fun r hr => by simp at hr⟩
  | r :: rs, q, q2, h, h0, hm => by
    rw [fewRs] at h
    split at h
    · rename_i hq
      split at h
      · cases h
      · rename_i hb
        have h1 : 0 < weightE r.ex (q - r.refs.length) := by
          rcases Int.lt_or_le 0 (weightE r.ex (q - r.refs.length)) with hp | hp
          · exact hp
          · have : ∀ (l : List Rl) (x : Int), ¬ 0 < x → fewRs most l x = some x := by
              intro l x hx
              cases l
              · rfl
              · rw [fewRs, if_neg hx]
            rw [this _ _ (by omega)] at h
            cases h
            omega
        have h2 := weightE_height r.ex _ h1
        have h3 := r.ex.height_pos
        obtain ⟨k1, k2⟩ := fewRs_known rs _ q2 h h0 (by omega)
        refine ⟨by rw [List.length_cons]; omega, fun x hx => ?_⟩
        rw [List.mem_cons] at hx
        rcases hx with rfl | hx
        · exact ⟨by omega, by omega, by omega⟩
        · exact k2 x hx
    · rename_i hq
      cases h
      omega
structure FewT (most : Int) (t : Ty) : Prop where
  name : t.name.length ≤ 100
  count : (t.rels.length : Int) ≤ most
  rels : ∀ r ∈ t.rels, FewR most r
theorem fewTs_known {most : Int} : ∀ (ts : List Ty) (q q2 : Int), fewTs most ts q = some q2 → 0 < q2 → q ≤ most → q2 ≤ q ∧ ∀ t ∈ ts, FewT most t
  | [], q, q2, h, h0, hm => by cases h; exact ⟨Int.le_refl _, fun t ht => by simp at ht⟩
  | t :: ts, q, q2, h, h0, hm => by
    rw [fewTs] at h
    split at h
    · rename_i hq
      split at h
      · cases h
      · rename_i hb
        cases hr : fewRs most t.rels q with
        | none => rw [hr] at h; cases h
        | some x =>
          rw [hr] at h
          have h : fewTs most ts x = some q2 := h
          have hx : 0 < x := by
            rcases Int.lt_or_le 0 x with hp | hp
            · exact hp
            · rw [fewTs_stop (by omega)] at h
              cases h
              omega
          obtain ⟨k1, k2⟩ := fewRs_known _ _ _ hr hx hm
          obtain ⟨k3, k4⟩ := fewTs_known ts _ _ h h0 (by omega)
          refine ⟨by omega, fun y hy => ?_⟩
          rw [List.mem_cons] at hy
          rcases hy with rfl | hy
          · exact ⟨by omega, by omega, k2⟩
          · exact k4 y hy
    · rename_i hq
      cases h
      omega
theorem few_known {ts : List Ty} {most : Int} (h : fewP ts most = true) : (ts.length : Int) ≤ most ∧ ∀ t ∈ ts, FewT most t := by
  unfold fewP at h
  cases hr : fewTs most ts (most - ts.length) with
  | none => rw [hr] at h; cases h
  | some q =>
    rw [hr] at h
    have h : 0 < q := of_decide_eq_true h
    obtain ⟨h1, h2⟩ := fewTs_known ts _ _ hr h (by omega)
    exact ⟨by omega, h2⟩
/-! ### the walks -/
def IRet (w : World) (n : Int) (e : Ending) (w' : World) : Prop := e = .returned (.int .i64 n) ∧ Below w.heap.size w w'
set_option maxRecDepth 100000 in
set_option maxHeartbeats 1000000 in
theorem weight_calls (F : Nat → Prop) : ∀ (e : Ex) (v : Value) (w : World) (m : Int), ExV w F e v → m ≤ 1000000 → -1000000 ≤ m →
    Calls Tryd.prog 13 #[v, .int .i64 m] w (IRet w (weightE e m))
  | .mk kind nm ov n kid, v, w, m, h, hm, hm2 => by
    have HV := Lib.hid h
    obtain ⟨⟨A, c, rfl⟩, hnl⟩ := h.top
    have ih := fun i => weight_calls F (kid i)
    have IH := Lib.hid ih
    clear ih h
    rw [weightE_eq]
    by_cases hbig : m < (n : Int)
    · rw [if_pos hbig]
      go_enter Tryd.func13, Tryd.ntmps13
      go_wp2
      go_ret
      exact ⟨rfl, (Below.refl _ w).alloc (Nat.le_refl _) _⟩
    rw [if_neg hbig]
    have HBD := Lib.hid (fun i q (hq : 0 < q) => weightE_bound (kid i) q hq)
    go_enter Tryd.func13, Tryd.ntmps13
    go_wp2_with fail
    go_loopw [1, 5] (fun v1 v5 wr => ∃ k : Nat, ∃ q : Int, k ≤ n ∧ v5 = .int .i64 k ∧ v1 = .int .i64 q ∧ q ≤ 1000000 ∧ -1000001 ≤ q ∧ Hid (wTo (fun i => weightE (kid i)) k (m - 1) = q) ∧ Below (w.alloc (.cells #[.int .i64 kind, vs nm, vs ov, .slice A n c] 38)).heap.size (w.alloc (.cells #[.int .i64 kind, vs nm, vs ov, .slice A n c] 38)) wr) (fun _ v5 _ => n - (intOf v5).toNat)
    case atStart => exact ⟨0, m - 1, Nat.zero_le _, rfl, rfl, by omega, by omega, Lib.hid rfl, Below.refl _ _⟩
    case round =>
      obtain ⟨k, q, hkn, rfl, rfl, hq1, hq2, HQ, hb'⟩ := hrel
      have hb : Below w.heap.size w wr := keepB ((Below.refl _ w).alloc (Nat.le_refl _) _) hb'
      have HB := Lib.hid hb
      have HB' := Lib.hid hb'
      obtain ⟨t0, t1, t2, t3, -⟩ := four_of ((hb'.block w.heap.size (by simp)).trans (heap_alloc_new w (.cells #[.int .i64 kind, vs nm, vs ov, .slice A n c] 38)))
      by_cases hk : k < n
      · by_cases hq0 : 0 < q
        · obtain ⟨a, b, k0, a0, b0, A0, n0, c0, rfl, hab, d0, d1, d2, d3, hx⟩ := kid_cells (HV.out.below hb) k hk
          have HX := Lib.hid hx
          have HST := Lib.hid (wTo_on (fun i => weightE (kid i)) hk HQ.out hq0)
          have hbd := HBD.out ⟨k, hk⟩ q hq0
          obtain ⟨q', hq'⟩ : ∃ q', weightE (kid ⟨k, hk⟩) q = q' := ⟨_, rfl⟩
          rw [hq'] at hbd
          have HQ' := Lib.hid hq'
          clear hb hb' hx hq'
          go_wp2_with fail
          refine (IH.out ⟨k, hk⟩ _ _ q HX.out (by omega) (by omega)).mono ?_
          rintro e w1 ⟨rfl, hb1⟩
          have HB1 := Lib.hid (below_then HB'.out HB'.out.size hb1)
          rw [HQ'.out]
          clear hb1
          have hk1 : k + 1 ≤ n := hk
          go_wp2
          refine ⟨⟨k + 1, q', hk1, by go_num, rfl, by omega, by omega, Lib.hid ?_, HB1.out⟩, by simp [intOf]; omega⟩
          rw [HST.out]
          exact HQ'.out
        · have HE := Lib.hid (wTo_stop (fun i => weightE (kid i)) (by rw [HQ.out]; exact hq0) n hkn)
          have hq0' : decide (0 < q) = false := decide_eq_false hq0
          clear hb hb' hq0
          go_wp2
          go_ret
          exact ⟨by rw [HE.out, HQ.out]; rfl, HB.out⟩
      · have hk0 : k = n := by omega
        subst hk0
        clear hb hb'
        go_wp2
        go_ret
        exact ⟨by rw [HQ.out]; rfl, HB.out⟩
set_option maxRecDepth 100000 in
set_option maxHeartbeats 4000000 in
theorem Few_calls (F : Nat → Prop) (ts : List Ty) (A : Option Addr) (n c : Nat) (w : World) (h : SlV w F 2 (TyR w F) ts A n) :
    Calls Tryd.prog 12 #[.agg #[.slice A n c], .int .i64 300] w (BRet w (fewP ts 300)) := by
  have hnl := h.2.1
  have hB0 := (Below.refl w.heap.size w).alloc (Nat.le_refl _) (.cells #[.slice A n c] 25)
  have S := Lib.hid h
  have HLN := Lib.hid h.1
  have HB0 := Lib.hid hB0
  have g0 := heap_alloc_new w (.cells #[.slice A n c] 25)
  have HG0 := Lib.hid g0
  have HP := Lib.hid (show fewP ts 300 = fewO (fewTs 300 ts (300 - n)) by unfold fewP; rw [h.1])
  clear h hB0 g0
  go_enter Tryd.func12, Tryd.ntmps12
  go_wp2_with fail
  go_loopw [5, 6] (fun v5 v6 wr => ∃ j : Nat, ∃ q : Int, j ≤ n ∧ v6 = .int .i64 j ∧ v5 = .int .i64 q ∧ q ≤ 300 ∧ -9223372036854775800 ≤ q ∧ Hid (fewTs 300 (ts.drop j) q = fewTs 300 ts (300 - n)) ∧ Hid (Below (w.alloc (.cells #[.slice A n c] 25)).heap.size (w.alloc (.cells #[.slice A n c] 25)) wr)) (fun _ v6 _ => n - (intOf v6).toNat)
  case atStart => exact ⟨0, 300 - n, Nat.zero_le _, rfl, rfl, by omega, by omega, Lib.hid (by rw [List.drop_zero]), Lib.hid (Below.refl _ _)⟩
  case round =>
    obtain ⟨j, q, hjn, rfl, rfl, hq1, hq2, HQ, HB⟩ := hrel
    have s0 := cells_of ((HB.out.block w.heap.size (by simp)).trans HG0.out) 0 (.slice A n c) rfl
    have HBW := Lib.hid (keepB HB0.out HB.out)
    by_cases hj : j < n
    rotate_left
    · have hjn' : j = n := by omega
      subst hjn'
      have HE := Lib.hid (show fewTs 300 ts (300 - j) = some q by rw [← HQ.out, ← HLN.out, List.drop_length]; rfl)
      go_wp2
      go_ret
      exact ⟨by rw [HP.out, HE.out]; rfl, HBW.out⟩
    by_cases hq0 : 0 < q
    rotate_left
    · have HE := Lib.hid (show fewTs 300 ts (300 - n) = some q by rw [← HQ.out]; exact fewTs_stop hq0)
      have HF := Lib.hid (decide_eq_false hq0)
      have hq0' : decide (0 < q) = false := decide_eq_false hq0
      clear hq0
      go_wp2
      go_ret
      exact ⟨by rw [HP.out, HE.out]; show _ = Ending.returned (.bool (decide (0 < q))); rw [HF.out]; rfl, HBW.out⟩
    obtain ⟨ad, p, B, m, d, rfl, hp1, d0, d1, hr⟩ := type_cells S.out j hj
    have HD1 := Lib.hid d1
    have d0 := keepC HBW.out d0
    have d1 := keepC HBW.out d1
    have hml := hr.2.1
    have hdr : ts.drop j = tyAt ts j :: ts.drop (j + 1) := drop_at ts ⟨[], []⟩ (by rw [HLN.out]; exact hj)
    have HR := Lib.hid hr
    have HRL := Lib.hid hr.1
    have hsn := sz (tyAt ts j).name
    by_cases hnm : 100 < (tyAt ts j).name.length
    · have HE := Lib.hid (show fewTs 300 ts (300 - n) = none by rw [← HQ.out, hdr]; exact fewTs_bad hq0 hnm)
      generalize (tyAt ts j).name = nx at *
      clear hr hdr
      go_wp2
      go_ret
      exact ⟨by rw [HP.out, HE.out]; rfl, HBW.out⟩
    have HE := Lib.hid (show fewIn 300 (tyAt ts j).rels q (ts.drop (j + 1)) = fewTs 300 ts (300 - n) by rw [← HQ.out, hdr]; exact (fewTs_on hq0 hnm).symm)
    clear hr hdr
    generalize (tyAt ts j).name = nx at *
    generalize (tyAt ts j).rels = rs at *
    go_wp2_with fail
    go_loopw [5, 7] (fun v5 v7 wr2 => ∃ i : Nat, ∃ q : Int, i ≤ m ∧ v7 = .int .i64 i ∧ v5 = .int .i64 q ∧ q ≤ 300 ∧ -9223372036854775800 ≤ q ∧ Hid (fewIn 300 (rs.drop i) q (ts.drop (j + 1)) = fewTs 300 ts (300 - n)) ∧ Hid (Below (w.alloc (.cells #[.slice (some ad) n c] 25)).heap.size (w.alloc (.cells #[.slice (some ad) n c] 25)) wr2)) (fun _ v7 _ => m - (intOf v7).toNat)
    case atStart => exact ⟨0, q, Nat.zero_le _, rfl, rfl, hq1, hq2, Lib.hid (by rw [List.drop_zero]; exact HE.out), HB⟩
    case round =>
      clear s0 d0 d1 hq0 hq1 hq2 HQ HE HBW HB
      obtain ⟨i, q2, him, rfl, rfl, hq1, hq2, HQ, HB⟩ := hrel
      have HBW := Lib.hid (keepB HB0.out HB.out)
      have s0 := cells_of ((HB.out.block w.heap.size (by simp)).trans HG0.out) 0 (.slice (some ad) n c) rfl
      have d1 := keepC HBW.out HD1.out
      by_cases hi : i < m
      rotate_left
      · have him' : i = m := by omega
        subst him'
        have HE := Lib.hid (show fewTs 300 (ts.drop (j + 1)) q2 = fewTs 300 ts (300 - n) by rw [← HQ.out, ← HRL.out, List.drop_length]; rfl)
        go_wp2
        go_roundw
        case rel => exact ⟨j + 1, q2, by omega, by go_num, rfl, hq1, hq2, HE, HB⟩
        case measure => simp [intOf]; omega
      by_cases hq0 : 0 < q2
      rotate_left
      · have HE := Lib.hid (show fewTs 300 (ts.drop (j + 1)) q2 = fewTs 300 ts (300 - n) by rw [← HQ.out]; exact (fewIn_stop hq0).symm)
        have hq0' : decide (0 < q2) = false := decide_eq_false hq0
        clear hq0
        go_wp2
        go_roundw
        case rel => exact ⟨j + 1, q2, by omega, by go_num, rfl, hq1, hq2, HE, HB⟩
        case measure => simp [intOf]; omega
      obtain ⟨ar, r, C, cn, cc, rk, ra, rb, C', cn', cc', rfl, hr, r0, r1, r2, r3, r4, r5, hrr, hre⟩ := rel_cells (rels_below HR.out HBW.out) i hi
      have hdr : rs.drop i = rlAt rs i :: rs.drop (i + 1) := drop_at rs ⟨[], [], leaf 0 [] []⟩ (by rw [HRL.out]; exact hi)
      have hcl := hrr.1
      have hcn := hrr.2.1
      have hwb := weightE_low (rlAt rs i).ex (q2 - cn)
      have hwp := weightE_bound (rlAt rs i).ex (q2 - cn)
      have HRE := Lib.hid (hre.alloc (.cells (rlCells (rlAt rs i).name C cn cc rk ra rb C' cn' cc') 48))
      have HBA := Lib.hid (belAlloc HB.out (.cells (rlCells (rlAt rs i).name C cn cc rk ra rb C' cn' cc') 48))
      have hsn := sz (rlAt rs i).name
      by_cases hbad : 300 < (cn : Int) ∨ 100 < (rlAt rs i).name.length
      · have HE := Lib.hid (show fewTs 300 ts (300 - n) = none by rw [← HQ.out, hdr]; exact fewIn_bad hq0 (by rw [hcl]; exact hbad))
        have HBW2 := Lib.hid (belAlloc HBW.out (.cells (rlCells (rlAt rs i).name C cn cc rk ra rb C' cn' cc') 48))
        clear hdr hrr hre hwb hwp
        generalize (rlAt rs i).name = nx at *
        by_cases h1 : 300 < (cn : Int)
        · clear hbad
          go_wp2
          go_ret
          exact ⟨by rw [HP.out, HE.out]; rfl, HBW2.out⟩
        · have h2 : 100 < nx.length := by omega
          clear hbad
          go_wp2
          go_ret
          exact ⟨by rw [HP.out, HE.out]; rfl, HBW2.out⟩
      have h1 : ¬ 300 < (cn : Int) := fun h => hbad (.inl h)
      have h2 : ¬ 100 < (rlAt rs i).name.length := fun h => hbad (.inr h)
      have HE := Lib.hid (show fewIn 300 (rs.drop (i + 1)) (weightE (rlAt rs i).ex (q2 - cn)) (ts.drop (j + 1)) = fewTs 300 ts (300 - n) by rw [← HQ.out, hdr, fewIn_on hq0 (by rw [hcl]; exact h1) h2, hcl])
      have hwq : weightE (rlAt rs i).ex (q2 - cn) ≤ 300 ∧ -1 ≤ weightE (rlAt rs i).ex (q2 - cn) := by
        by_cases hz : 0 < q2 - (cn : Int)
        · have := hwp hz; omega
        · have := hwb hz; omega
      clear hdr hrr hre hwb hwp hbad
      have HWC := Lib.hid (fun w hx => weight_calls F (rlAt rs i).ex (exAgg rk ra rb C' cn' cc') w (q2 - cn) hx (by omega) (by omega))
      generalize weightE (rlAt rs i).ex (q2 - cn) = q3 at *
      generalize (rlAt rs i).name = nx at *
      go_wp2_with fail
      refine (HWC.out _ HRE.out).mono ?_
      rintro e w1 ⟨rfl, hb⟩
      have HB1 := Lib.hid (below_then HBA.out HBA.out.size hb)
      clear hb
      go_wp2
      refine ⟨⟨i + 1, q3, by omega, by go_num, rfl, by omega, by omega, HE, HB1⟩, by simp [intOf]; omega⟩
end Go.Proofs.YtgmlcnikphbiiaaDoor.L

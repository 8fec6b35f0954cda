/-
  CacheTrue, the plain law: what is kept was put last of all.
-/
import Derived.Test.YtfmekhebdpjdkaaCacheI
namespace Go.Proofs.Ytfmekhebdpjdkaa.C
open Go.RowKit Go.Proofs.Ytfmekhebdpjdkaa.B
set_option linter.unusedVariables false
set_option linter.unusedSimpArgs false

def tn (o : OpV) : Nm := o.tenant.data.toList
def qn (o : OpV) : Nm := o.question.data.toList
def Bad (t : Nm) (r : Int) (o : OpV) : Prop := (o.kind = 2 ∧ tn o = t) ∨ (tn o = t ∧ o.rev > r ∧ (o.kind = 0 ∨ o.kind = 1))
instance (t : Nm) (r : Int) (o : OpV) : Decidable (Bad t r o) := by unfold Bad; exact inferInstance
def scan (t : Nm) (r : Int) (q : Nm) : List OpV → Option Bool
  | [] => none
  | o :: l => if o.kind = 1 ∧ tn o = t ∧ o.rev = r ∧ qn o = q then some o.yes else if Bad t r o then none else scan t r q l
def Hist (S : Nm → Option Tn) (P : List OpV) : Prop := ∀ t rv l q y, S t = some (rv, l) → l.lookup q = some y → scan t rv q P = some y
def NDS (S : Nm → Option Tn) : Prop := ∀ nm t, S nm = some t → (t.2.map Prod.fst).Nodup
theorem Rep.nds {w : World} {cb : Nat} {most : Int} {N : Nat} {tag : Nat → Option Tag} {mb : Nat} {pm : Nm → Option Nat} {S : Nm → Option Tn} (h : Rep w cb most N tag mb pm S) : NDS S := fun nm t hS => by
  have := h.same nm
  rw [hS] at this
  obtain ⟨pb, hpm⟩ := Option.isSome_iff_exists.1 this
  obtain ⟨ab, ov, _, _, _, _, _, _, _, hnd, _⟩ := h.parts nm pb t hpm hS
  exact hnd
theorem scan_skip {t : Nm} {r : Int} {q : Nm} {o : OpV} {P : List OpV} (h1 : ¬ (o.kind = 1 ∧ tn o = t ∧ o.rev = r ∧ qn o = q)) (h2 : ¬ Bad t r o) : scan t r q (o :: P) = scan t r q P := by
  simp [scan, h1, h2]
theorem scan_pop {t : Nm} {r : Int} {q : Nm} {o : OpV} {P : List OpV} {y : Bool} (h : scan t r q (o :: P) = some y) (h1 : ¬ (o.kind = 1 ∧ tn o = t ∧ o.rev = r ∧ qn o = q)) : scan t r q P = some y ∧ ¬ Bad t r o := by
  by_cases hb : Bad t r o
  · rw [scan, if_neg h1, if_pos hb] at h; cases h
  · rw [scan_skip h1 hb] at h; exact ⟨h, hb⟩
theorem hist_other {S : Nm → Option Tn} {P : List OpV} (h : Hist S P) {o : OpV} (x : Option Tn) (hx : ∀ rv l q y, x = some (rv, l) → l.lookup q = some y → scan (tn o) rv q (o :: P) = some y) : Hist (upd S (tn o) x) (o :: P) := by
  intro t rv l q y hS hl
  by_cases ht : t = tn o
  · subst ht
    rw [upd_same] at hS
    exact hx rv l q y hS hl
  · rw [upd_other _ _ ht] at hS
    rw [scan_skip (fun hc => ht hc.2.1.symm) (fun hc => by rcases hc with hc | hc; exact ht hc.2.symm; exact ht hc.1.symm)]
    exact h t rv l q y hS hl
theorem hist_at {S : Nm → Option Tn} {P : List OpV} (h : Hist S P) {o : OpV} {rv : Int} {l : List (Nm × Bool)} {q : Nm} {y : Bool} (hx : atF o.rev (S (tn o)) = (rv, l)) (hl : l.lookup q = some y) : o.rev ≤ rv ∧ scan (tn o) rv q P = some y := by
  cases hS : S (tn o) with
  | none =>
    rw [hS] at hx
    simp only [atF, Prod.mk.injEq] at hx
    rw [← hx.2] at hl; cases hl
  | some t =>
    obtain ⟨r, l0⟩ := t
    rw [hS] at hx
    unfold atF at hx
    dsimp only at hx
    split at hx
    · simp only [Prod.mk.injEq] at hx
      rw [← hx.2] at hl; cases hl
    · rename_i hc
      simp only [Prod.mk.injEq] at hx
      obtain ⟨rfl, rfl⟩ := hx
      exact ⟨by omega, h _ _ _ _ _ hS hl⟩
theorem hist_get {S : Nm → Option Tn} {P : List OpV} (h : Hist S P) {o : OpV} (hk : o.kind = 0) : Hist (upd S (tn o) (some (atF o.rev (S (tn o))))) (o :: P) := by
  refine hist_other h _ (fun rv l q y hx hl => ?_)
  obtain ⟨h1, h2⟩ := hist_at h (Option.some.inj hx) hl
  rw [scan_skip (fun hc => by omega) (fun hc => by rcases hc with hc | hc <;> omega)]
  exact h2
theorem hist_drop {S : Nm → Option Tn} {P : List OpV} (h : Hist S P) {o : OpV} : Hist (upd S (tn o) none) (o :: P) :=
  hist_other h _ (fun rv l q y hx hl => by cases hx)
theorem hist_none {S : Nm → Option Tn} {P : List OpV} (h : Hist S P) {o : OpV} (h0 : o.kind ≠ 0) (h1 : o.kind ≠ 1) (h2 : o.kind ≠ 2) : Hist S (o :: P) := fun t rv l q y hS hl => by
  rw [scan_skip (fun hc => h1 hc.1) (fun hc => by rcases hc with hc | hc <;> omega)]
  exact h t rv l q y hS hl
theorem at_nodup {S : Nm → Option Tn} (h : NDS S) (r : Int) (nm : Nm) : ((atF r (S nm)).2.map Prod.fst).Nodup := by
  cases hS : S nm with
  | none => simp [atF]
  | some t =>
    obtain ⟨rv, l⟩ := t
    unfold atF
    dsimp only
    split
    · simp
    · exact h nm (rv, l) hS
theorem at_ge (r : Int) (x : Option Tn) : r ≤ (atF r x).1 := by
  cases x with
  | none => simp [atF]
  | some t =>
    obtain ⟨rv, l⟩ := t
    unfold atF
    dsimp only
    split
    · simp
    · dsimp only; omega
theorem hist_put {most : Int} {S : Nm → Option Tn} {P : List OpV} (h : Hist S P) (hB : Bd most S) (hN : NDS S) {o : OpV} (hk : o.kind = 1) : Hist (upd S (tn o) (some (putF most o.rev (qn o) o.yes (atF o.rev (S (tn o)))))) (o :: P) := by
  refine hist_other h _ (fun rv l q y hx hl => ?_)
  have hx := Option.some.inj hx
  have hge := at_ge o.rev (S (tn o))
  have hnd := at_nodup hN o.rev (tn o)
  have htb := atTB hB o.rev (tn o)
  obtain ⟨x, hxx⟩ : ∃ x, atF o.rev (S (tn o)) = x := ⟨_, rfl⟩
  rw [hxx] at hx hge hnd htb
  obtain ⟨x1, x2⟩ := x
  simp only at hge hnd
  have old : ∀ q, q ≠ qn o ∨ x1 ≠ o.rev → ∀ y, x2.lookup q = some y → scan (tn o) x1 q (o :: P) = some y := fun q hq y hy => by
    obtain ⟨a1, a2⟩ := hist_at h hxx hy
    rw [scan_skip (fun hc => by rcases hq with hq | hq; exact hq hc.2.2.2.symm; exact hq hc.2.2.1.symm) (fun hc => by rcases hc with hc | hc <;> omega)]
    exact a2
  unfold putF at hx
  split at hx
  · rename_i hc
    simp only [Prod.mk.injEq] at hx
    obtain ⟨rfl, rfl⟩ := hx
    rcases hc with hc | hc
    · exact old q (.inr hc) y hl
    · have := htb.2 hc
      simp only at this
      rw [this] at hl; cases hl
  · rename_i hc
    have h1 : x1 = o.rev := Decidable.byContradiction fun e => hc (.inl e)
    have new : ∀ l' : List (Nm × Bool), (∀ r, l'.lookup r = upd (fun q => x2.lookup q) (qn o) (some o.yes) r) → ∀ q y, l'.lookup q = some y → scan (tn o) x1 q (o :: P) = some y := fun l' hl' q y hy => by
      rw [hl' q] at hy
      by_cases hq : q = qn o
      · subst hq
        rw [upd_same] at hy
        cases hy
        simp [scan, hk, h1]
      · rw [upd_other _ _ hq] at hy
        exact old q (.inl hq) y hy
    split at hx
    · rename_i hh
      simp only [Prod.mk.injEq] at hx
      obtain ⟨rfl, rfl⟩ := hx
      exact new _ (repl_lookup _ _ _ hh) q y hl
    · rename_i hh
      have hno : x2.lookup (qn o) = none := by
        cases hc : x2.lookup (qn o) with
        | none => rfl
        | some b => exact absurd (by rw [hc]; rfl) hh
      simp only [Prod.mk.injEq] at hx
      obtain ⟨rfl, rfl⟩ := hx
      split at hl
      · obtain ⟨p, t, hpt⟩ : ∃ p t, x2 ++ [(qn o, o.yes)] = p :: t := by
          cases x2 with
          | nil => exact ⟨_, _, rfl⟩
          | cons a l => exact ⟨_, _, rfl⟩
        have hnd2 : ((x2 ++ [(qn o, o.yes)]).map Prod.fst).Nodup := by
          rw [List.map_append, List.nodup_append]
          refine ⟨hnd, by simp, ?_⟩
          intro a ha b hb e
          have hb' : b = qn o := by simpa using hb
          exact lookup_none hno (hb' ▸ e ▸ ha)
        refine new _ (snoc_lookup _ _ _ hno) q y ?_
        rw [hpt] at hl hnd2 ⊢
        have hl : t.lookup q = some y := hl
        rw [drop_lookup hnd2] at hl
        by_cases hq : q = p.1
        · subst hq; rw [upd_same] at hl; cases hl
        · rw [upd_other _ _ hq] at hl; exact hl
      · exact new _ (snoc_lookup _ _ _ hno) q y hl
theorem take_rev {L : List OpV} {k : Nat} {o : OpV} (hk : k < L.length) (ho : L.getD k OpV.none = o) : (L.take (k + 1)).reverse = o :: (L.take k).reverse := by
  rw [List.take_add_one, List.getElem?_eq_getElem hk]
  have : L[k] = o := by rw [← ho]; simp [List.getD_eq_getElem?_getD, hk]
  simp [this]
end Go.Proofs.Ytfmekhebdpjdkaa.C

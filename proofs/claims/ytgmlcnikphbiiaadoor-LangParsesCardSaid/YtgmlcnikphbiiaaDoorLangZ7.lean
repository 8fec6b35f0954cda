/-
  The document's reader in any state: rel, the plain words and the laws on memory.
-/
import Derived.Test.YtgmlcnikphbiiaaDoorLangZ6
import Derived.Test.YtgmlcnikphbiiaaDoorLangV
namespace Go.Proofs.YtgmlcnikphbiiaaDoor.L
open Go.RowKit Go.Proofs.YtgmlcnikphbiiaaDoor.B Go.Proofs.YtgmlcnikphbiiaaDoor.S10 Go.Proofs.YtgmlcnikphbiiaaDoor.Nm
open Go.Proofs.YtgmlcnikphbiiaaDoor.C (QRow Turn wpList_append_q)
set_option linter.unusedVariables false
set_option linter.unusedSimpArgs false

theorem RO.len {w : World} {rb : Nat} {op : Int} {L : List Tk} (h : RO w rb op L) : L.length ≤ 5000 := by
  obtain ⟨TL, at_, ⟨_, _, _, _, _, h1, _⟩, h2, _⟩ := h
  rw [← h2, List.length_drop]; omega
def totR : Except Dg (List Tk) → R (List Rf)
  | .error d => .error d
  | .ok L => refsS L
/-- between two refs. -/
def RInv (acc : List Rf) (r : Except Dg (List Tk)) (tot : R (List Rf)) : Prop :=
  (∀ d, r = .error d → tot = .error d) ∧ (∀ L, r = .ok L → tot = (if (hasS [124] L).1 then refsGo ((hasS [124] L).2.length + 1) acc (hasS [124] L).2 else .ok (acc, (hasS [124] L).2))) ∧
  (∀ L, r = .ok L → acc.length + L.length ≤ 5000) ∧ acc.length ≤ 5001
theorem RInv.push {acc : List Rf} {r : Except Dg (List Tk)} {tot : R (List Rf)} {x : Rf} (h1 : ∀ d, r = .error d → tot = .error d) (h2 : ∀ L, r = .ok L → tot = refsGo (L.length + 1) acc L) (h3 : ∀ L, r = .ok L → acc.length + L.length ≤ 5000) (h4 : acc.length ≤ 5000)
    (hx : ∀ L a' l, r = .ok L → refS L = .ok (a', l) → x = a') : RInv (acc ++ [x]) (stp refS r) tot := by
  have hl : (acc ++ [x]).length = acc.length + 1 := by simp
  cases r with
  | error d => exact ⟨(fun d' h => by cases h; exact h1 d rfl), (fun L h => by cases h), (fun L h => by cases h), by omega⟩
  | ok L =>
    cases hr : refS L with
    | error d =>
      rw [stp_err hr]
      exact ⟨(fun d' h => by cases h; rw [h2 L rfl, refsGo_err hr]), (fun L h => by cases h), (fun L h => by cases h), by omega⟩
    | ok p =>
      obtain ⟨a, l⟩ := p
      have := hx L a l rfl hr
      subst this
      rw [stp_ok hr]
      have hlt := less1_ref hr
      have hb := h3 L rfl
      refine ⟨(fun d' h => by cases h), fun L' h => ?_, fun L' h => ?_, by omega⟩
      · cases h
        rw [h2 L rfl]
        cases hh : (hasS [124] l).1 with
        | true => rw [if_pos rfl, refsGo_on (Nat.le_refl _) hr hh]
        | false => rw [if_neg (by simp), refsGo_end hr hh]
      · cases h; omega
theorem rel_true {L : List Tk} (hb : (hasS sRelation L).1 = true) {s : Bs} {acc : List Rf} {rF : Except Dg (List Tk)} (hs : ∀ L' a' l, (Except.ok (hasS sRelation L).2 : Except Dg (List Tk)) = .ok L' → nameS L' = .ok (a', l) → s = a')
    (hf : match rF with | .error d => totR (stp (mustS [58]) (stp nameS (.ok (hasS sRelation L).2))) = .error d | .ok l => totR (stp (mustS [58]) (stp nameS (.ok (hasS sRelation L).2))) = .ok (acc, l)) :
    stp relS (.ok L) = rF ∧ ∀ L' a' l, (Except.ok L : Except Dg (List Tk)) = .ok L' → relS L' = .ok (a', l) → some (⟨s, acc, leaf 0 [] []⟩ : Rl) = a' := by
  cases L with
  | nil => cases hb
  | cons t l0 =>
    rw [hasS_cons] at hb hs hf
    cases ht : t.s == sRelation with
    | false => rw [ht] at hb; cases hb
    | true =>
      rw [ht, if_pos rfl] at hs hf
      dsimp only at hs hf
      have hrel := relS_rel (l := l0) ht
      cases hn : nameS l0 with
      | error d =>
        rw [stp_err hn] at hf
        have hr : relS (t :: l0) = .error d := by rw [hrel, relHead_err hn]
        rw [stp_err hr]
        cases rF with
        | error d' => cases hf; exact ⟨rfl, fun L' a' l h h2 => by cases h; rw [hr] at h2; cases h2⟩
        | ok l => cases hf
      | ok p =>
        obtain ⟨a, l1⟩ := p
        have := hs l0 a l1 rfl hn
        subst this
        rw [stp_ok hn] at hf
        cases hm : mustS [58] l1 with
        | error d =>
          rw [stp_err hm] at hf
          have hr : relS (t :: l0) = .error d := by rw [hrel, relHead_err2 hn hm]
          rw [stp_err hr]
          cases rF with
          | error d' => cases hf; exact ⟨rfl, fun L' a' l h h2 => by cases h; rw [hr] at h2; cases h2⟩
          | ok l => cases hf
        | ok q =>
          obtain ⟨u, l2⟩ := q
          cases u
          rw [stp_ok hm] at hf
          have hr0 : relS (t :: l0) = relTail true s l2 := by rw [hrel, relHead_ok hn hm]
          have htl : relTail true s l2 = match refsS l2 with
            | .error d => .error d
            | .ok (rs, l) => .ok (some ⟨s, rs, leaf 0 [] []⟩, l) := rfl
          rw [htl] at hr0
          cases rF with
          | error d =>
            have hf' : refsS l2 = .error d := hf
            rw [hf'] at hr0
            exact ⟨stp_err hr0, fun L' a' l h h2 => by cases h; rw [hr0] at h2; cases h2⟩
          | ok l =>
            have hf' : refsS l2 = .ok (acc, l) := hf
            rw [hf'] at hr0
            exact ⟨stp_ok hr0, fun L' a' l h h2 => by cases h; rw [hr0] at h2; cases h2; rfl⟩
theorem rel_def {L : List Tk} (h0 : (hasS sRelation L).1 = false) (hb : (hasS sDefine L).1 = true) {s : Bs} {x : Ex} (hs : ∀ L' a' l, (Except.ok (hasS sDefine L).2 : Except Dg (List Tk)) = .ok L' → nameS L' = .ok (a', l) → s = a')
    (hx : ∀ L' a' l, stp (mustS [58]) (stp nameS (.ok (hasS sDefine L).2)) = .ok L' → exprS 12 L' = .ok (a', l) → x = a') :
    stp relS (.ok L) = stp (exprS 12) (stp (mustS [58]) (stp nameS (.ok (hasS sDefine L).2))) ∧ ∀ L' a' l, (Except.ok L : Except Dg (List Tk)) = .ok L' → relS L' = .ok (a', l) → some (⟨s, [], x⟩ : Rl) = a' := by
  cases L with
  | nil => cases hb
  | cons t l0 =>
    rw [hasS_cons] at h0
    rw [hasS_cons] at hb hs hx ⊢
    cases htr : t.s == sRelation with
    | true => rw [htr] at h0; cases h0
    | false =>
    cases ht : t.s == sDefine with
    | false => rw [ht] at hb; cases hb
    | true =>
      rw [ht, if_pos rfl] at hs hx
      rw [if_pos rfl]
      dsimp only at hs hx ⊢
      have hrel := relS_def (l := l0) htr ht
      cases hn : nameS l0 with
      | error d =>
        have hr : relS (t :: l0) = .error d := by rw [hrel, relHead_err hn]
        rw [stp_err hr, stp_err hn]
        exact ⟨rfl, fun L' a' l h h2 => by cases h; rw [hr] at h2; cases h2⟩
      | ok p =>
        obtain ⟨a, l1⟩ := p
        have := hs l0 a l1 rfl hn
        subst this
        rw [stp_ok hn] at hx ⊢
        cases hm : mustS [58] l1 with
        | error d =>
          have hr : relS (t :: l0) = .error d := by rw [hrel, relHead_err2 hn hm]
          rw [stp_err hr, stp_err hm]
          exact ⟨rfl, fun L' a' l h h2 => by cases h; rw [hr] at h2; cases h2⟩
        | ok q =>
          obtain ⟨u, l2⟩ := q
          cases u
          rw [stp_ok hm] at hx ⊢
          have hr0 : relS (t :: l0) = relTail false s l2 := by rw [hrel, relHead_ok hn hm]
          have htl : relTail false s l2 = match exprS 12 l2 with
            | .error d => .error d
            | .ok (e, l) => .ok (some ⟨s, [], e⟩, l) := rfl
          rw [htl] at hr0
          cases he : exprS 12 l2 with
          | error d =>
            rw [he] at hr0
            exact ⟨by rw [stp_err hr0, stp_err he], fun L' a' l h h2 => by cases h; rw [hr0] at h2; cases h2⟩
          | ok z =>
            obtain ⟨e, l⟩ := z
            have := hx l2 e l rfl he
            subst this
            rw [he] at hr0
            exact ⟨by rw [stp_ok hr0, stp_ok he], fun L' a' l h h2 => by cases h; rw [hr0] at h2; cases h2; rfl⟩
theorem rel_no {r : Except Dg (List Tk)} (h0 : (isR sRelation r).1 = false) (hb : (isR sDefine (isR sRelation r).2).1 = false) : stp relS r = (isR sDefine (isR sRelation r).2).2 ∧ ∀ L' a' l, r = .ok L' → relS L' = .ok (a', l) → none = a' := by
  cases r with
  | error d => exact ⟨rfl, fun L' a' l h => by cases h⟩
  | ok L =>
    cases L with
    | nil => exact ⟨rfl, fun L' a' l h h2 => by cases h; cases h2; rfl⟩
    | cons t l0 =>
      have h0' : (hasS sRelation (t :: l0)).1 = false := h0
      have hb' : (hasS sDefine (hasS sRelation (t :: l0)).2).1 = false := hb
      show stp relS (.ok (t :: l0)) = .ok (hasS sDefine (hasS sRelation (t :: l0)).2).2 ∧ _
      rw [hasS_cons] at h0' hb' ⊢
      cases htr : t.s == sRelation with
      | true => rw [htr] at h0'; cases h0'
      | false =>
        rw [htr, if_neg (by simp), hasS_cons] at hb'
        rw [if_neg (by simp)]
        dsimp only at hb' ⊢
        rw [hasS_cons]
        cases ht : t.s == sDefine with
        | true => rw [ht] at hb'; cases hb'
        | false =>
          have hr : relS (t :: l0) = .ok (none, t :: l0) := by rw [relS_cons, htr, ht]; rfl
          rw [if_neg (by simp)]
          exact ⟨stp_ok hr, fun L' a' l h h2 => by cases h; rw [hr] at h2; cases h2; rfl⟩
theorem hasS_no {q : Bs} {L : List Tk} (h : (hasS q L).1 = false) : (hasS q L).2 = L := by
  cases L with
  | nil => rfl
  | cons t l =>
    rw [hasS_cons] at h ⊢
    split at h
    · cases h
    · rename_i hc; rw [if_neg hc]
/-! ### in memory -/
abbrev xRow (s : Bs) (A : Option Addr) (n c : Nat) : Array Value := #[vs s, .slice A n c, .int .i64 0, .string ⟨#[]⟩, .string ⟨#[]⟩, .slice none 0 0]
structure RX (rb : Nat) (w : World) (s : Bs) (acc : List Rf) (A : Option Addr) (c : Nat) (r : Except Dg (List Tk)) (wr : World) : Prop where
  at0 : At rb w wr
  st : St wr rb 0 r
  rv : wr.heap[w.heap.size + 1]? = some (.cells (xRow s A acc.length c) 48 (0, 0))
  rs : wr.heap[w.heap.size]? = some (.cells Z48 48 (0, 0))
  own : OwnL wr 81 2 RefR (.slice A acc.length c) acc
  blk : ∀ g, (Value.slice A acc.length c).ownBlock = some g → w.heap.size + 2 ≤ g
  hp : rb < w.heap.size
theorem RX.call {rb : Nat} {w : World} {s : Bs} {acc : List Rf} {A : Option Addr} {c : Nat} {r r' : Except Dg (List Tk)} {wr w5 : World} (h : RX rb w s acc A c r wr) (hA : At rb wr w5) (hS : St w5 rb 0 r') : RX rb w s acc A c r' w5 := by
  have hp := h.hp
  refine ⟨h.at0.trans hA, hS, hA.kept h.rv (by omega), hA.kept h.rs (by omega), h.own.kept (fun g hg => ?_) (fun _ _ h => h), h.blk, h.hp⟩
  have h1 := h.blk g hg
  exact hA.keep (h.own.block_lt hg) (by omega)
theorem RX.drew {rb : Nat} {w : World} {s : Bs} {acc : List Rf} {A : Option Addr} {c : Nat} {r : Except Dg (List Tk)} {wr : World} (h : RX rb w s acc A c r wr) : RX rb w s acc A c r wr.drew := h.call (at_below (below_drewN (Below.refl _ _) 1)) h.st.drew
theorem RX.push {rb : Nat} {w : World} {s : Bs} {acc : List Rf} {A A' : Option Addr} {c c' : Nat} {r : Except Dg (List Tk)} {w5 w6 : World} {x : Rf} {css : List (List Value)} (h : RX rb w s acc A c r w5)
    (hc1 : ∀ c ∈ css, c.length = 2) (hc3 : All2 RefR acc css) (hq6 : QRow w6 81 2 (.slice A' (acc.length + 1) c') (acc.length + 1) (css.flatten ++ [vs x.ty, vs x.rel]))
    (hg6 : (w5.alloc (.cells #[vs x.ty, vs x.rel] 81)).grownBy w6 (Value.slice A acc.length c).ownBlock)
    (hb6 : ∀ g, (Value.slice A' (acc.length + 1) c').ownBlock = some g → (Value.slice A acc.length c).ownBlock = some g ∨ (w5.alloc (.cells #[vs x.ty, vs x.rel] 81)).heap.size ≤ g) :
    w6.heap[w.heap.size + 1]? = some (.cells (xRow s A acc.length c) 48 (0, 0)) ∧ RX rb w s (acc ++ [x]) A' c' r (w6.setCell ⟨w.heap.size + 1, 1, none⟩ (.slice A' (acc.length + 1) c')) := by
  have hlen : (acc ++ [x]).length = acc.length + 1 := by simp
  have hw5 : (w5.alloc (.cells #[vs x.ty, vs x.rel] 81)).heap.size = w5.heap.size + 1 := by simp
  rw [hw5] at hb6
  have hp := h.hp
  have hl5 := lt_of_heap h.rv
  have hl5' := lt_of_heap h.rs
  have hblk' : ∀ g, (Value.slice A' (acc.length + 1) c').ownBlock = some g → w.heap.size + 2 ≤ g := fun g hg => by
    rcases hb6 g hg with h1 | h1
    · exact h.blk g h1
    · omega
  have hrv6 : w6.heap[w.heap.size + 1]? = some (.cells (xRow s A acc.length c) 48 (0, 0)) := by
    rw [hg6.block _ (by simp; omega) (fun e => by have := h.blk _ e.symm; omega), alloc_old _ hl5]; exact h.rv
  have hT : Turn (fun b => w.heap.size + 1 ≤ b) w5 (w6.setCell ⟨w.heap.size + 1, 1, none⟩ (.slice A' (acc.length + 1) c')) :=
    Turn.trans (Turn.trans (Turn.alloc (fp := fun b => w.heap.size + 1 ≤ b) w5 (.cells #[vs x.ty, vs x.rel] 81)) (Turn.grown (fp := fun b => w.heap.size + 1 ≤ b) hg6 (fun g hg => by have := h.blk g hg; omega)) (fun k hk _ => hk))
      (Turn.setCell (fp := fun b => b = w.heap.size + 1) w6 ⟨w.heap.size + 1, 1, none⟩ _ rfl) (fun k hk _ => by omega)
  refine ⟨hrv6, Turn.trans h.at0 hT (fun k hk hlt => by omega), h.st.turn hT (fun b hb e => by omega), ?_, ?_, ?_, ?_, h.hp⟩
  · rw [hlen]; exact heap_setCell_same w6 (w.heap.size + 1) 1 _ _ _ hrv6
  · rw [heap_setCell_other _ _ _ _ (by show w.heap.size ≠ w.heap.size + 1; omega), hg6.block _ (by simp; omega) (fun e => by have := h.blk _ e.symm; omega), alloc_old _ hl5']; exact h.rs
  · rw [hlen]
    have h0 : OwnL w6 81 2 RefR (.slice A' (acc.length + 1) c') (acc ++ [x]) := OwnL.snoc (w := w6) (v := .slice none 0 0) hc1 hc3 (c := [vs x.ty, vs x.rel]) rfl (fun _ _ h => h) rfl hq6
    exact h0.kept (fun g hg => heap_setCell_other _ _ _ _ (by have := hblk' g hg; show g ≠ w.heap.size + 1; omega)) (fun _ _ h => h)
  · rw [hlen]; exact hblk'
end Go.Proofs.YtgmlcnikphbiiaaDoor.L

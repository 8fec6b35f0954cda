/-
  Plain functions of layer 1 (num): hexadecimal text, numbers in groups, eight bytes, the sum of bytes. No program in sight.
-/
import Derived.Laws.BitsLemmas
namespace Go.Proofs.YteaapekkoahilaaDoor.S01

/-- A byte of a list, as a number; 0 beyond its end. -/
def by' (l : List UInt8) (i : Nat) : Int := ((l.getD i 0).toNat : Int)
theorem by_range (l : List UInt8) (i : Nat) : 0 ≤ by' l i ∧ by' l i ≤ 255 := by
  unfold by'; have := (l.getD i 0).toNat_lt; omega
/-- One bit of the sum. -/
def stepN (x : Nat) : Nat := if x % 2 = 1 then (x / 2) ^^^ 3988292384 else x / 2
def stepsN : Nat → Nat → Nat
  | 0, x => x
  | k + 1, x => stepsN k (stepN x)
theorem stepsN_succ : ∀ (k x : Nat), stepsN (k + 1) x = stepN (stepsN k x)
  | 0, _ => rfl
  | k + 1, x => stepsN_succ k (stepN x)
def byteN (x : Nat) (c : UInt8) : Nat := stepsN 8 (x ^^^ c.toNat)
def crcN (l : List UInt8) : Nat := l.foldl byteN 4294967295
def crcF (l : List UInt8) : Nat := crcN l ^^^ 4294967295
theorem xor_lt {a b : Nat} (ha : a < 4294967296) (hb : b < 4294967296) : a ^^^ b < 4294967296 := Nat.xor_lt_two_pow (n := 32) ha hb
theorem stepN_lt {x : Nat} (h : x < 4294967296) : stepN x < 4294967296 := by
  unfold stepN
  split
  · exact xor_lt (by omega) (by omega)
  · omega
theorem stepsN_lt : ∀ (k : Nat) {x : Nat}, x < 4294967296 → stepsN k x < 4294967296
  | 0, _, h => h
  | k + 1, _, h => stepsN_lt k (stepN_lt h)
theorem byteN_lt {x : Nat} (h : x < 4294967296) (c : UInt8) : byteN x c < 4294967296 := stepsN_lt 8 (xor_lt h (by have := c.toNat_lt; omega))
theorem crcN_lt (l : List UInt8) : crcN l < 4294967296 := by
  suffices h : ∀ (l : List UInt8) (x : Nat), x < 4294967296 → l.foldl byteN x < 4294967296 from h l _ (by omega)
  intro l
  induction l with
  | nil => intro x h; exact h
  | cons c l ih => intro x h; exact ih _ (byteN_lt h c)
theorem crcN_take (l : List UInt8) (k : Nat) (hk : k < l.length) : crcN (l.take (k + 1)) = byteN (crcN (l.take k)) (l.getD k 0) := by
  have e : l.getD k 0 = l[k] := by simp [List.getD_eq_getElem?_getD, hk]
  rw [List.take_succ_eq_append_getElem hk, e]
  unfold crcN
  rw [List.foldl_append]; rfl
theorem crcF_lt (l : List UInt8) : crcF l < 4294967296 := xor_lt (crcN_lt l) (by omega)

/-- What a sign says. -/
def halfF (c : Int) : Option Int := if 48 ≤ c ∧ c ≤ 57 then some (c - 48) else if 97 ≤ c ∧ c ≤ 102 then some (c - 87) else none
theorem halfF_range {c x : Int} (h : halfF c = some x) : 0 ≤ x ∧ x ≤ 15 := by
  unfold halfF at h
  split at h
  · simp at h; omega
  · split at h
    · simp at h; omega
    · simp at h
def toB (x : Int) : UInt8 := UInt8.ofNat x.toNat
theorem toB_nat {x : Int} (h0 : 0 ≤ x) (h1 : x ≤ 255) : ((toB x).toNat : Int) = x := by
  unfold toB
  rw [UInt8.toNat_ofNat']
  omega
def pairB (l : List UInt8) (i : Nat) : Option UInt8 :=
  match halfF (by' l (2 * i)), halfF (by' l (2 * i + 1)) with
  | some a, some b => some (toB (16 * a + b))
  | _, _ => none
def preB (l : List UInt8) (k : Nat) : List UInt8 := (List.range k).map fun i => (pairB l i).getD 0
theorem preB_succ (l : List UInt8) (k : Nat) (c : UInt8) (h : pairB l k = some c) : preB l (k + 1) = preB l k ++ [c] := by
  unfold preB
  rw [List.range_succ, List.map_append]; simp [h]
theorem preB_len (l : List UInt8) (k : Nat) : (preB l k).length = k := by simp [preB]
/-- The bytes of a text. -/
def unhexF (l : List UInt8) : Option (List UInt8) :=
  if l.length % 2 = 0 ∧ ∀ i, i < l.length / 2 → (pairB l i).isSome = true then some (preB l (l.length / 2)) else none
theorem unhex_odd {l : List UInt8} (h : l.length % 2 = 1) : unhexF l = none := by
  unfold unhexF; rw [if_neg (by omega)]
theorem unhex_no {l : List UInt8} {i : Nat} (hi : i < l.length / 2) (h : pairB l i = none) : unhexF l = none := by
  unfold unhexF; rw [if_neg]
  rintro ⟨_, h2⟩
  have := h2 i hi
  rw [h] at this; exact absurd this (by simp)
theorem unhex_yes {l : List UInt8} {k : Nat} (he : l.length % 2 = 0) (hk : ¬ k < l.length / 2) (h : ∀ i, i < k → (pairB l i).isSome = true) (hk2 : k ≤ l.length / 2) : unhexF l = some (preB l k) := by
  have e : k = l.length / 2 := by omega
  subst e
  unfold unhexF; rw [if_pos ⟨he, h⟩]

/-- The number of the first k bytes. -/
def accN : List UInt8 → Nat → Nat
  | _, 0 => 0
  | l, k + 1 => accN l k * 256 + (l.getD k 0).toNat
theorem accN_lt (l : List UInt8) : ∀ k, accN l k < 256 ^ k
  | 0 => by simp [accN]
  | k + 1 => by
    have := accN_lt l k
    have h := (l.getD k 0).toNat_lt
    show accN l k * 256 + (l.getD k 0).toNat < 256 ^ (k + 1)
    rw [Nat.pow_succ]
    omega
theorem accN_lt7 (l : List UInt8) (k : Nat) (hk : k ≤ 7) : accN l k < 72057594037927936 :=
  Nat.lt_of_lt_of_le (accN_lt l k) (Nat.le_trans (Nat.pow_le_pow_right (by omega) hk) (by decide))
theorem accN_lt8 (l : List UInt8) : accN l 8 < 18446744073709551616 := Nat.lt_of_lt_of_le (accN_lt l 8) (by decide)
def narrowF (l : List UInt8) : Int × Int := if l.length = 8 then (IntKind.i64.wrap (accN l 8 : Nat), 0) else (0, 1)
/-- The number of the first k groups. -/
def valN : List UInt8 → Nat → Nat
  | _, 0 => 0
  | l, k + 1 => valN l k + (l.getD k 0).toNat % 128 * 128 ^ k
theorem valN_lt (l : List UInt8) : ∀ k, valN l k < 128 ^ k
  | 0 => by simp [valN]
  | k + 1 => by
    have := valN_lt l k
    have h : (l.getD k 0).toNat % 128 < 128 := Nat.mod_lt _ (by omega)
    show valN l k + (l.getD k 0).toNat % 128 * 128 ^ k < 128 ^ (k + 1)
    rw [Nat.pow_succ]
    have h2 : (l.getD k 0).toNat % 128 * 128 ^ k ≤ 127 * 128 ^ k := Nat.mul_le_mul_right _ (by omega)
    omega
/-- One that is read: its value, and how many bytes it took. -/
def getFrom (l : List UInt8) : Nat → Nat → Nat × Nat
  | 0, _ => (0, 0)
  | f + 1, k => if k < l.length then (if (l.getD k 0).toNat < 128 then (if (l.getD k 0).toNat = 0 ∧ 0 < k then (0, 0) else (valN l (k + 1), k + 1)) else getFrom l f (k + 1)) else (0, 0)
def getF (l : List UInt8) : Nat × Nat := getFrom l 9 0
theorem getFrom_skip (l : List UInt8) : ∀ (f k : Nat), (∀ j, k ≤ j → j < k + f → j < l.length ∧ ¬ (l.getD j 0).toNat < 128) → ∀ g, getFrom l (f + g) k = getFrom l g (k + f)
  | 0, k, _, g => by simp
  | f + 1, k, h, g => by
    have h0 := h k (by omega) (by omega)
    have e : f + 1 + g = (f + g) + 1 := by omega
    rw [e]
    show (if k < l.length then (if (l.getD k 0).toNat < 128 then (if (l.getD k 0).toNat = 0 ∧ 0 < k then (0, 0) else (valN l (k + 1), k + 1)) else getFrom l (f + g) (k + 1)) else (0, 0)) = _
    rw [if_pos h0.1, if_neg h0.2, getFrom_skip l f (k + 1) (fun j h1 h2 => h j (by omega) (by omega)) g]
    congr 1; omega
theorem getF_hit {l : List UInt8} {k : Nat} (hk : k < 9) (hl : k < l.length) (ha : ∀ j, j < k → ¬ (l.getD j 0).toNat < 128) (h : (l.getD k 0).toNat < 128) : getF l = if (l.getD k 0).toNat = 0 ∧ 0 < k then (0, 0) else (valN l (k + 1), k + 1) := by
  have e : getF l = getFrom l (k + ((8 - k) + 1)) 0 := by unfold getF; congr 1; omega
  rw [e, getFrom_skip l k 0 (fun j _ hj => ⟨by omega, ha j (by omega)⟩), Nat.zero_add]
  show (if k < l.length then _ else _) = _
  rw [if_pos hl, if_pos h]
theorem getF_none {l : List UInt8} {k : Nat} (hk : k = 9 ∨ k = l.length ∧ k < 9) (hl : k ≤ l.length) (ha : ∀ j, j < k → ¬ (l.getD j 0).toNat < 128) : getF l = (0, 0) := by
  rcases hk with rfl | ⟨hk, h9⟩
  · have e : getF l = getFrom l (9 + 0) 0 := rfl
    rw [e, getFrom_skip l 9 0 (fun j _ hj => ⟨by omega, ha j (by omega)⟩)]; rfl
  · have e : getF l = getFrom l (k + ((8 - k) + 1)) 0 := by unfold getF; congr 1; omega
    rw [e, getFrom_skip l k 0 (fun j _ hj => ⟨by omega, ha j (by omega)⟩), Nat.zero_add]
    show (if k < l.length then _ else _) = _
    rw [if_neg (by omega)]

/-- The first k groups of a number, each with more behind it. -/
def grp (x : Int) (k : Nat) : List UInt8 := (List.range k).map fun i => toB (x / (128 ^ i : Nat) % 128 + 128)
theorem grp_len (x : Int) (k : Nat) : (grp x k).length = k := by simp [grp]
theorem grp_succ (x : Int) (k : Nat) : grp x (k + 1) = grp x k ++ [toB (x / (128 ^ k : Nat) % 128 + 128)] := by
  unfold grp; rw [List.range_succ, List.map_append]; rfl
/-- How many groups have more behind them: the first k from f on with x / 128^k < 128. -/
def grpsFrom (x : Int) : Nat → Nat → Nat
  | 0, k => k
  | f + 1, k => if 128 ≤ x / (128 ^ k : Nat) then grpsFrom x f (k + 1) else k
def grps (x : Int) : Nat := grpsFrom x 10 0
/-- A number behind bytes. -/
def putF (l : List UInt8) (x : Int) : List UInt8 := if x < 0 then l else l ++ grp x (grps x) ++ [toB (x / (128 ^ (grps x) : Nat))]
theorem putF_neg (l : List UInt8) {x : Int} (h : x < 0) : putF l x = l := by unfold putF; rw [if_pos h]
theorem grpsFrom_at (x : Int) : ∀ (f k j : Nat), (∀ i, k ≤ i → i < k + j → 128 ≤ x / (128 ^ i : Nat)) → j < f → ¬ 128 ≤ x / (128 ^ (k + j) : Nat) → grpsFrom x f k = k + j
  | 0, k, j, _, hj, _ => by omega
  | f + 1, k, 0, _, _, hn => by unfold grpsFrom; rw [if_neg (by simpa using hn)]; rfl
  | f + 1, k, j + 1, h, hj, hn => by
    unfold grpsFrom
    rw [if_pos (h k (Nat.le_refl _) (by omega)), grpsFrom_at x f (k + 1) j (fun i h1 h2 => h i (by omega) (by omega)) (by omega) (by rw [show k + 1 + j = k + (j + 1) by omega]; exact hn)]
    omega
theorem putF_at (l : List UInt8) {x : Int} (h0 : 0 ≤ x) {k : Nat} (hk : k < 10) (ha : ∀ j, j < k → 128 ≤ x / (128 ^ j : Nat)) (hn : ¬ 128 ≤ x / (128 ^ k : Nat)) : putF l x = l ++ grp x k ++ [toB (x / (128 ^ k : Nat))] := by
  have e : grps x = k := by
    unfold grps
    rw [grpsFrom_at x 10 0 k (fun i _ h => ha i (by omega)) hk (by rw [Nat.zero_add]; exact hn), Nat.zero_add]
  unfold putF
  rw [if_neg (by omega), e]

theorem div_next {x : Int} (h0 : 0 ≤ x) (k : Nat) : x / (128 ^ k : Nat) / 128 = x / (128 ^ (k + 1) : Nat) := by
  obtain ⟨a, rfl⟩ := Int.eq_ofNat_of_zero_le h0
  have : a / 128 ^ k / 128 = a / 128 ^ (k + 1) := by rw [Nat.div_div_eq_div_mul, Nat.pow_succ]
  exact_mod_cast this
theorem k_bound {x : Int} (h0 : 0 ≤ x) (h1 : x ≤ 9223372036854775807) {k : Nat} (h : 128 ≤ x / (128 ^ k : Nat)) : k ≤ 8 := by
  obtain ⟨a, rfl⟩ := Int.eq_ofNat_of_zero_le h0
  have h' : 128 ≤ a / 128 ^ k := by exact_mod_cast h
  rcases Nat.lt_or_ge 8 k with hk | hk
  · exfalso
    have e : 128 ^ 9 ≤ 128 ^ k := Nat.pow_le_pow_right (by omega) hk
    have h9 : a < 128 ^ 9 := by rw [show (128 : Nat) ^ 9 = 9223372036854775808 by decide]; omega
    have : a / 128 ^ k = 0 := Nat.div_eq_of_lt (Nat.lt_of_lt_of_le h9 e)
    omega
  · exact hk

def hexS : List UInt8 := [48, 49, 50, 51, 52, 53, 54, 55, 56, 57, 97, 98, 99, 100, 101, 102]
def sgn (d : Nat) : UInt8 := hexS.getD d 0
def hexB (c : UInt8) : List UInt8 := [sgn (c.toNat / 16), sgn (c.toNat % 16)]
/-- Bytes as text. -/
def hexF (l : List UInt8) : List UInt8 := l.flatMap hexB
theorem hexF_take (l : List UInt8) (k : Nat) (hk : k < l.length) : hexF (l.take (k + 1)) = hexF (l.take k) ++ hexB (l.getD k 0) := by
  have e : l.getD k 0 = l[k] := by simp [List.getD_eq_getElem?_getD, hk]
  rw [List.take_succ_eq_append_getElem hk, e]
  unfold hexF
  rw [List.flatMap_append]; simp
theorem hexF_len (l : List UInt8) : (hexF l).length = 2 * l.length := by
  induction l with
  | nil => rfl
  | cons c l ih => unfold hexF at *; rw [List.flatMap_cons, List.length_append, ih]; simp [hexB]; omega
end Go.Proofs.YteaapekkoahilaaDoor.S01

/-
  SHA-256, plain: words, blocks, what is filled up; the sum; the code under a key.
-/
import Derived.Test.YthgjhfcafdepcaaGreatDoorBase
namespace Go.Proofs.YthgjhfcafdepcaaGreatDoor.Sh
open Go.RowKit Go.Proofs.YthgjhfcafdepcaaGreatDoor.B
set_option linter.unusedVariables false
set_option linter.unusedSimpArgs false

abbrev Bs := List UInt8
structure V8 where
  (a b c d e f g h : UInt32)
def rot (x k : UInt32) : UInt32 := x >>> k ||| x <<< (32 - k)
def kC : List UInt32 := [0x428a2f98, 0x71374491, 0xb5c0fbcf, 0xe9b5dba5, 0x3956c25b, 0x59f111f1, 0x923f82a4, 0xab1c5ed5,
  0xd807aa98, 0x12835b01, 0x243185be, 0x550c7dc3, 0x72be5d74, 0x80deb1fe, 0x9bdc06a7, 0xc19bf174,
  0xe49b69c1, 0xefbe4786, 0x0fc19dc6, 0x240ca1cc, 0x2de92c6f, 0x4a7484aa, 0x5cb0a9dc, 0x76f988da,
  0x983e5152, 0xa831c66d, 0xb00327c8, 0xbf597fc7, 0xc6e00bf3, 0xd5a79147, 0x06ca6351, 0x14292967,
  0x27b70a85, 0x2e1b2138, 0x4d2c6dfc, 0x53380d13, 0x650a7354, 0x766a0abb, 0x81c2c92e, 0x92722c85,
  0xa2bfe8a1, 0xa81a664b, 0xc24b8b70, 0xc76c51a3, 0xd192e819, 0xd6990624, 0xf40e3585, 0x106aa070,
  0x19a4c116, 0x1e376c08, 0x2748774c, 0x34b0bcb5, 0x391c0cb3, 0x4ed8aa4a, 0x5b9cca4f, 0x682e6ff3,
  0x748f82ee, 0x78a5636f, 0x84c87814, 0x8cc70208, 0x90befffa, 0xa4506ceb, 0xbef9a3f7, 0xc67178f2]
def start8 : V8 := ⟨0x6a09e667, 0xbb67ae85, 0x3c6ef372, 0xa54ff53a, 0x510e527f, 0x9b05688c, 0x1f83d9ab, 0x5be0cd19⟩
/-! ### a block -/
def byt (b : Bs) (i : Nat) : UInt32 := UInt32.ofNat (b.getD i 0).toNat
def wordAt (b : Bs) (t : Nat) : UInt32 := UInt32.ofNat (((b.getD (4 * t) 0).toNat * 16777216 + (b.getD (4 * t + 1) 0).toNat * 65536) + ((b.getD (4 * t + 2) 0).toNat * 256 + (b.getD (4 * t + 3) 0).toNat))
def wNext (x y u v : UInt32) : UInt32 := (rot y 17 ^^^ rot y 19 ^^^ y >>> 10) + u + (rot x 7 ^^^ rot x 18 ^^^ x >>> 3) + v
def stepW (b : Bs) (ws : List UInt32) : List UInt32 :=
  ws ++ [if ws.length < 16 then wordAt b ws.length else wNext (ws.getD (ws.length - 15) 0) (ws.getD (ws.length - 2) 0) (ws.getD (ws.length - 7) 0) (ws.getD (ws.length - 16) 0)]
def wsT (b : Bs) : Nat → List UInt32
  | 0 => []
  | t + 1 => stepW b (wsT b t)
theorem wsT_len (b : Bs) : ∀ t, (wsT b t).length = t
  | 0 => rfl
  | t + 1 => by rw [wsT, stepW, List.length_append, wsT_len b t]; rfl
def rx (v : V8) (k w : UInt32) : UInt32 := v.h + (rot v.e 6 ^^^ rot v.e 11 ^^^ rot v.e 25) + (v.e &&& v.f ^^^ ~~~v.e &&& v.g) + k + w
def ry (v : V8) : UInt32 := (rot v.a 2 ^^^ rot v.a 13 ^^^ rot v.a 22) + (v.a &&& v.b ^^^ v.a &&& v.c ^^^ v.b &&& v.c)
def roundV (v : V8) (k w : UInt32) : V8 := ⟨rx v k w + ry v, v.a, v.b, v.c, v.d + rx v k w, v.e, v.f, v.g⟩
def vT (ws : List UInt32) (s : V8) : Nat → V8
  | 0 => s
  | t + 1 => roundV (vT ws s t) (kC.getD t 0) (ws.getD t 0)
def addV (s v : V8) : V8 := ⟨s.a + v.a, s.b + v.b, s.c + v.c, s.d + v.d, s.e + v.e, s.f + v.f, s.g + v.g, s.h + v.h⟩
def blockF (s : V8) (b : Bs) : V8 := addV s (vT (wsT b 64) s 64)
/-! ### all blocks -/
def foldB (s : V8) : Nat → Bs → V8
  | 0, _ => s
  | n + 1, L => foldB (blockF s (L.take 64)) n (L.drop 64)
theorem foldB_snoc : ∀ (n : Nat) (s : V8) (L : Bs), foldB s (n + 1) L = blockF (foldB s n L) ((L.drop (64 * n)).take 64)
  | 0, s, L => rfl
  | n + 1, s, L => by
    show foldB (blockF s (L.take 64)) (n + 1) (L.drop 64) = blockF (foldB (blockF s (L.take 64)) n (L.drop 64)) ((L.drop (64 * (n + 1))).take 64)
    rw [foldB_snoc n, List.drop_drop, show 64 + 64 * n = 64 * (n + 1) by omega]
theorem take_app {L p : Bs} {k : Nat} (h : k ≤ L.length) : (L ++ p).take k = L.take k := by
  rw [List.take_append_of_le_length h]
theorem foldB_app : ∀ (n : Nat) (s : V8) (L p : Bs), 64 * n ≤ L.length → foldB s n (L ++ p) = foldB s n L
  | 0, s, L, p, _ => rfl
  | n + 1, s, L, p, h => by
    show foldB (blockF s ((L ++ p).take 64)) n ((L ++ p).drop 64) = foldB (blockF s (L.take 64)) n (L.drop 64)
    rw [take_app (by omega), List.drop_append_of_le_length (by omega), foldB_app n _ _ _ (by rw [List.length_drop]; omega)]
/-- the sum's state when these bytes were added. -/
def stH (L : Bs) : V8 := foldB start8 (L.length / 64) L
/-- what is no whole block yet. -/
def tailB (L : Bs) : Bs := L.drop (64 * (L.length / 64))
theorem tailB_len (L : Bs) : (tailB L).length = L.length % 64 := by
  unfold tailB
  rw [List.length_drop]
  omega
theorem add_part {L p : Bs} (h : L.length % 64 + p.length < 64) : stH (L ++ p) = stH L ∧ tailB (L ++ p) = tailB L ++ p := by
  have e : (L ++ p).length / 64 = L.length / 64 := by rw [List.length_append]; omega
  unfold stH tailB
  rw [e]
  exact ⟨foldB_app _ _ _ _ (by omega), by rw [List.drop_append_of_le_length (by omega)]⟩
theorem add_full {L p : Bs} (h : L.length % 64 + p.length = 64) : stH (L ++ p) = blockF (stH L) (tailB L ++ p) ∧ tailB (L ++ p) = [] := by
  have e : (L ++ p).length / 64 = L.length / 64 + 1 := by rw [List.length_append]; omega
  have hl : (L ++ p).length = 64 * (L.length / 64) + 64 := by rw [List.length_append]; omega
  unfold stH tailB
  rw [e, foldB_snoc, foldB_app _ _ _ _ (by omega), List.drop_append_of_le_length (by omega)]
  refine ⟨?_, List.drop_eq_nil_of_le (by omega)⟩
  rw [List.take_of_length_le (by rw [List.length_append, List.length_drop]; omega)]
/-! ### what is filled up -/
def zeros (n : Nat) : Nat := (119 - n % 64) % 64
def lenB (n : Nat) : Bs := [UInt8.ofNat (n * 8 / 72057594037927936), UInt8.ofNat (n * 8 / 281474976710656), UInt8.ofNat (n * 8 / 1099511627776), UInt8.ofNat (n * 8 / 4294967296), UInt8.ofNat (n * 8 / 16777216), UInt8.ofNat (n * 8 / 65536), UInt8.ofNat (n * 8 / 256), UInt8.ofNat (n * 8)]
def padB (n : Nat) : Bs := (128 :: List.replicate (zeros n) 0) ++ lenB n
theorem zeros_ok (n : Nat) : (n + 1 + zeros n) % 64 = 56 := by unfold zeros; omega
theorem zeros_lt (n : Nat) : zeros n < 64 := by unfold zeros; omega
theorem zeros_min (n k : Nat) (h : k < zeros n) : (n + 1 + k) % 64 ≠ 56 := by unfold zeros at h; omega
theorem padB_len (n : Nat) : (padB n).length = 1 + zeros n + 8 := by
  unfold padB lenB
  simp
  omega
def out4 (x : UInt32) : Bs := [UInt8.ofNat (x.toNat / 16777216), UInt8.ofNat (x.toNat / 65536), UInt8.ofNat (x.toNat / 256), UInt8.ofNat x.toNat]
def outB (s : V8) : Bs := out4 s.a ++ out4 s.b ++ out4 s.c ++ out4 s.d ++ out4 s.e ++ out4 s.f ++ out4 s.g ++ out4 s.h
theorem outB_len (s : V8) : (outB s).length = 32 := rfl
def shaF (L : Bs) : Bs := outB (stH (L ++ padB L.length))
theorem shaF_len (L : Bs) : (shaF L).length = 32 := rfl
/-! ### the code under a key -/
def keyF (k : Bs) : Bs := (if 64 < k.length then shaF k else k)
theorem keyF_len (k : Bs) : (keyF k).length ≤ 64 := by
  unfold keyF
  split
  · rw [shaF_len]; omega
  · omega
def fillK (k : Bs) : Bs := keyF k ++ List.replicate (64 - (keyF k).length) 0
theorem fillK_len (k : Bs) : (fillK k).length = 64 := by
  have := keyF_len k
  unfold fillK
  rw [List.length_append, List.length_replicate]; omega
def padK (k : Bs) (x : UInt8) : Bs := (fillK k).map (· ^^^ x)
def macF (k b : Bs) : Bs := shaF (padK k 92 ++ shaF (padK k 54 ++ b))
theorem macF_len (k b : Bs) : (macF k b).length = 32 := rfl
end Go.Proofs.YthgjhfcafdepcaaGreatDoor.Sh

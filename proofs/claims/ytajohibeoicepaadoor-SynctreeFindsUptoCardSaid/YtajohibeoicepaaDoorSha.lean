/-
  SHA-256 in plain Lean, over words of 32 bits: padding, blocks, and that a message may be hashed piece by piece. No program in sight.
-/
namespace Sha
abbrev W := BitVec 32
def rotr (x : W) (n : Nat) : W := (x >>> n) ||| (x <<< (32 - n))
/-- Word t of a block of bytes. -/
def word (b : List UInt8) (t : Nat) : W :=
  let g (i : Nat) : W := (b.getD (4 * t + i) 0).toBitVec.setWidth 32
  (g 0 <<< 24) ||| (g 1 <<< 16) ||| (g 2 <<< 8) ||| g 3
/-- The word behind the words ws (16 or more). -/
def nextWord (ws : List W) : W :=
  let n := ws.length
  let x := ws.getD (n - 15) 0
  let y := ws.getD (n - 2) 0
  let s0 := rotr x 7 ^^^ rotr x 18 ^^^ (x >>> 3)
  let s1 := rotr y 17 ^^^ rotr y 19 ^^^ (y >>> 10)
  s1 + ws.getD (n - 7) 0 + s0 + ws.getD (n - 16) 0
def grow : Nat → List W → List W
  | 0, ws => ws
  | k + 1, ws => grow k (ws ++ [nextWord ws])
def first (b : List UInt8) (n : Nat) : List W := (List.range n).map (word b)
/-- The 64 words of a block. -/
def sched (b : List UInt8) : List W := grow 48 (first b 16)
structure S8 where
  a : W
  b : W
  c : W
  d : W
  e : W
  f : W
  g : W
  h : W
deriving DecidableEq
def S8.add (x y : S8) : S8 := ⟨x.a + y.a, x.b + y.b, x.c + y.c, x.d + y.d, x.e + y.e, x.f + y.f, x.g + y.g, x.h + y.h⟩
def S8.toList (s : S8) : List W := [s.a, s.b, s.c, s.d, s.e, s.f, s.g, s.h]
def t1 (u : S8) (k w : W) : W := u.h + (rotr u.e 6 ^^^ rotr u.e 11 ^^^ rotr u.e 25) + ((u.e &&& u.f) ^^^ (~~~u.e &&& u.g)) + k + w
def t2 (u : S8) : W := (rotr u.a 2 ^^^ rotr u.a 13 ^^^ rotr u.a 22) + ((u.a &&& u.b) ^^^ (u.a &&& u.c) ^^^ (u.b &&& u.c))
def round (u : S8) (k w : W) : S8 := ⟨t1 u k w + t2 u, u.a, u.b, u.c, u.d + t1 u k w, u.e, u.f, u.g⟩
def K : List Nat := [
  0x428a2f98, 0x71374491, 0xb5c0fbcf, 0xe9b5dba5, 0x3956c25b, 0x59f111f1, 0x923f82a4, 0xab1c5ed5,
  0xd807aa98, 0x12835b01, 0x243185be, 0x550c7dc3, 0x72be5d74, 0x80deb1fe, 0x9bdc06a7, 0xc19bf174,
  0xe49b69c1, 0xefbe4786, 0x0fc19dc6, 0x240ca1cc, 0x2de92c6f, 0x4a7484aa, 0x5cb0a9dc, 0x76f988da,
  0x983e5152, 0xa831c66d, 0xb00327c8, 0xbf597fc7, 0xc6e00bf3, 0xd5a79147, 0x06ca6351, 0x14292967,
  0x27b70a85, 0x2e1b2138, 0x4d2c6dfc, 0x53380d13, 0x650a7354, 0x766a0abb, 0x81c2c92e, 0x92722c85,
  0xa2bfe8a1, 0xa81a664b, 0xc24b8b70, 0xc76c51a3, 0xd192e819, 0xd6990624, 0xf40e3585, 0x106aa070,
  0x19a4c116, 0x1e376c08, 0x2748774c, 0x34b0bcb5, 0x391c0cb3, 0x4ed8aa4a, 0x5b9cca4f, 0x682e6ff3,
  0x748f82ee, 0x78a5636f, 0x84c87814, 0x8cc70208, 0x90befffa, 0xa4506ceb, 0xbef9a3f7, 0xc67178f2]
def kw (t : Nat) : W := BitVec.ofNat 32 (K.getD t 0)
/-- The first t rounds. -/
def rounds (ws : List W) (v : S8) : Nat → S8
  | 0 => v
  | t + 1 => round (rounds ws v t) (kw t) (ws.getD t 0)
/-- What a block makes of a state. -/
def compress (v : S8) (b : List UInt8) : S8 := (rounds (sched b) v 64).add v
def init : S8 := ⟨0x6a09e667, 0xbb67ae85, 0x3c6ef372, 0xa54ff53a, 0x510e527f, 0x9b05688c, 0x1f83d9ab, 0x5be0cd19⟩
/-- n blocks. -/
def blocks : Nat → S8 → List UInt8 → S8
  | 0, v, _ => v
  | n + 1, v, l => blocks n (compress v (l.take 64)) (l.drop 64)
def be64 (n : Nat) : List UInt8 := (List.range 8).map fun i => UInt8.ofNat (n >>> (56 - 8 * i))
/-- How many zeros stand behind the byte 128. -/
def zeros (n : Nat) : Nat := (119 - n % 64) % 64
def tail (rest : List UInt8) (n : Nat) : List UInt8 := rest ++ [128] ++ List.replicate (zeros rest.length) 0 ++ be64 (8 * n)
def pad (m : List UInt8) : List UInt8 := tail m m.length
def bytesOf (x : W) : List UInt8 := [UInt8.ofBitVec ((x >>> 24).setWidth 8), UInt8.ofBitVec ((x >>> 16).setWidth 8), UInt8.ofBitVec ((x >>> 8).setWidth 8), UInt8.ofBitVec (x.setWidth 8)]
def out (s : S8) : List UInt8 := s.toList.flatMap bytesOf
/-- The digest of a message. -/
def sha (m : List UInt8) : List UInt8 := out (blocks ((pad m).length / 64) init (pad m))

theorem length_first (b : List UInt8) (n : Nat) : (first b n).length = n := by simp [first]
theorem length_grow : ∀ (k : Nat) (ws : List W), (grow k ws).length = ws.length + k
  | 0, _ => rfl
  | k + 1, ws => by rw [grow, length_grow k]; simp; omega
theorem length_sched (b : List UInt8) : (sched b).length = 64 := by rw [sched, length_grow, length_first]
theorem grow_succ : ∀ (k : Nat) (ws : List W), grow (k + 1) ws = grow k ws ++ [nextWord (grow k ws)]
  | 0, _ => rfl
  | k + 1, ws => by rw [grow, grow_succ k]; rfl
theorem first_succ (b : List UInt8) (n : Nat) : first b (n + 1) = first b n ++ [word b n] := by
  simp [first, List.range_succ]
theorem length_bytesOf (x : W) : (bytesOf x).length = 4 := rfl
theorem length_out (s : S8) : (out s).length = 32 := rfl
theorem length_sha (m : List UInt8) : (sha m).length = 32 := length_out _
theorem length_be64 (n : Nat) : (be64 n).length = 8 := by simp [be64]
theorem length_tail (r : List UInt8) (n : Nat) : (tail r n).length = r.length + 1 + zeros r.length + 8 := by
  simp [tail, length_be64]; omega
theorem zeros_spec (n : Nat) : (n + 1 + zeros n) % 64 = 56 := by unfold zeros; omega
theorem tail_mod (r : List UInt8) (n : Nat) : (tail r n).length % 64 = 0 := by
  rw [length_tail]; have := zeros_spec r.length; omega
theorem blocks_add (a b : Nat) : ∀ (v : S8) (l : List UInt8), blocks (a + b) v l = blocks b (blocks a v l) (l.drop (64 * a)) := by
  induction a with
  | zero => intro v l; simp [blocks]
  | succ a ih =>
    intro v l
    rw [show a + 1 + b = (a + b) + 1 by omega, blocks, ih, blocks, List.drop_drop]
    congr 2
    omega
/-- Only the blocks' own bytes count. -/
theorem blocks_append (n : Nat) : ∀ (v : S8) (l r : List UInt8), 64 * n ≤ l.length → blocks n v (l ++ r) = blocks n v l := by
  induction n with
  | zero => intro v l r _; rfl
  | succ n ih =>
    intro v l r h
    rw [blocks, blocks, List.take_append_of_le_length (by omega), List.drop_append_of_le_length (by omega), ih _ _ _ (by simp; omega)]
theorem blocks_take (n : Nat) (v : S8) (l : List UInt8) (k : Nat) (h : 64 * n ≤ k) (hk : k ≤ l.length) : blocks n v (l.take k) = blocks n v l := by
  have := blocks_append n v (l.take k) (l.drop k) (by simp; omega)
  rw [List.take_append_drop] at this
  exact this.symm
/-- The words behind the whole blocks of m, and what is left over. -/
def words (m : List UInt8) : S8 := blocks (m.length / 64) init m
def rest (m : List UInt8) : List UInt8 := m.drop (64 * (m.length / 64))
theorem length_rest (m : List UInt8) : (rest m).length = m.length % 64 := by simp [rest]; omega
theorem rest_of_lt {m : List UInt8} (h : m.length < 64) : rest m = m := by
  have : m.length / 64 = 0 := by omega
  simp [rest, this]
/-- More bytes behind m: by blocks from the words and the rest. -/
theorem words_append (m b : List UInt8) : words (m ++ b) = blocks ((rest m ++ b).length / 64) (words m) (rest m ++ b) := by
  unfold words
  have hl : (rest m ++ b).length = m.length % 64 + b.length := by rw [List.length_append, length_rest]
  have hn : (m ++ b).length / 64 = m.length / 64 + (rest m ++ b).length / 64 := by rw [hl, List.length_append]; omega
  rw [hn, blocks_add, blocks_append _ _ _ _ (by omega), List.drop_append_of_le_length (by omega)]
  rfl
theorem rest_append (m b : List UInt8) : rest (m ++ b) = (rest m ++ b).drop (64 * ((rest m ++ b).length / 64)) := by
  unfold rest
  have hl : (rest m ++ b).length = m.length % 64 + b.length := by rw [List.length_append, length_rest]
  have hn : (m ++ b).length / 64 = m.length / 64 + (m.length % 64 + b.length) / 64 := by rw [List.length_append]; omega
  unfold rest at hl
  rw [hl, hn, Nat.mul_add, ← List.drop_drop, List.drop_append_of_le_length (by omega)]
/-- The digest from the words and the rest. -/
theorem sha_eq (m : List UInt8) : sha m = out (blocks ((tail (rest m) m.length).length / 64) (words m) (tail (rest m) m.length)) := by
  unfold sha
  have hz : zeros (rest m).length = zeros m.length := by rw [length_rest]; unfold zeros; omega
  have hp : pad m = m ++ ([128] ++ List.replicate (zeros m.length) 0 ++ be64 (8 * m.length)) := by simp [pad, tail]
  have ht : tail (rest m) m.length = rest m ++ ([128] ++ List.replicate (zeros m.length) 0 ++ be64 (8 * m.length)) := by simp [tail, hz]
  have hlt := length_tail (rest m) m.length
  have hlp : (pad m).length = m.length + 1 + zeros m.length + 8 := length_tail m m.length
  rw [hz, length_rest] at hlt
  have hn : (pad m).length / 64 = m.length / 64 + (tail (rest m) m.length).length / 64 := by rw [hlp, hlt]; omega
  rw [hn, blocks_add, hp, blocks_append _ _ _ _ (by omega), List.drop_append_of_le_length (by omega), ht]
  rfl
theorem words_nil : words [] = init := rfl
theorem rest_nil : rest [] = [] := rfl
/-- 'abc'. -/
theorem sha_abc : sha [97, 98, 99] = [0xba, 0x78, 0x16, 0xbf, 0x8f, 0x01, 0xcf, 0xea, 0x41, 0x41, 0x40, 0xde, 0x5d, 0xae, 0x22, 0x23, 0xb0, 0x03, 0x61, 0xa3, 0x96, 0x17, 0x7a, 0x9c, 0xb4, 0x10, 0xff, 0x61, 0xf2, 0x00, 0x15, 0xad] := by
  decide +kernel
end Sha

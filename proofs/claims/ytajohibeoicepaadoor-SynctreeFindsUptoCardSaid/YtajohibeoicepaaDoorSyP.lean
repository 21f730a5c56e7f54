/-
  Commands, their encodings, parts and digests, in plain Lean.
-/
import Derived.Test.YtajohibeoicepaaDoorWireP
import Derived.Test.YtajohibeoicepaaDoorSha
namespace Sy
/-- A number of 64 bits with sign. -/
abbrev I64 := { z : Int // -9223372036854775808 ≤ z ∧ z ≤ 9223372036854775807 }
/-- A part of an update. -/
structure Wt where
  object : List UInt8
  delta : List UInt8
/-- A command. -/
structure Cm where
  client : I64
  seq : I64
  kind : I64
  writes : List Wt
  replica : I64
  tag : List UInt8
/-- A digest. -/
structure Dg where
  pre : List UInt8
  sum : List UInt8
  count : Int
/-- A byte string, encoded. -/
def bts (l : List UInt8) : List UInt8 := Wire.uint (BitVec.ofNat 64 l.length) ++ l
/-- Writes, encoded. -/
def wts : List Wt → List UInt8
  | [] => []
  | x :: xs => bts x.object ++ bts x.delta ++ wts xs
theorem wts_append : ∀ a b : List Wt, wts (a ++ b) = wts a ++ wts b
  | [], _ => rfl
  | x :: xs, b => by simp [wts, wts_append xs b]
/-- What precedes the writes. -/
def head (x : Cm) : List UInt8 := Wire.int x.client ++ Wire.int x.seq ++ Wire.int x.kind ++ Wire.uint (BitVec.ofNat 64 x.writes.length)
/-- A command without its tag, encoded. -/
def bare (x : Cm) : List UInt8 := head x ++ wts x.writes ++ Wire.int x.replica
/-- A command, encoded. -/
def enc (x : Cm) : List UInt8 := bare x ++ bts x.tag
/-- The digits of bytes. -/
def digs : List UInt8 → List UInt8
  | [] => []
  | b :: bs => UInt8.ofNat (b.toNat / 16) :: UInt8.ofNat (b.toNat % 16) :: digs bs
/-- The part of a prefix. -/
def part (p : List UInt8) (s : List Cm) : List Cm := s.filter fun c => p.isPrefixOf (digs (enc c))
/-- What is hashed. -/
def body : List Cm → List UInt8
  | [] => []
  | c :: cs => bts (enc c) ++ body cs
theorem body_append : ∀ a b : List Cm, body (a ++ b) = body a ++ body b
  | [], _ => rfl
  | x :: xs, b => by simp [body, body_append xs b]
/-- The digest of a part. -/
def dig (s : List Cm) (p : List UInt8) : Dg := ⟨p, Sha.sha (body (part p s)), (part p s).length⟩
theorem length_bts (l : List UInt8) : (bts l).length ≤ l.length + 10 := by
  have := Wire.length_uint (BitVec.ofNat 64 l.length)
  simp [bts]; omega
theorem length_digs : ∀ l : List UInt8, (digs l).length = 2 * l.length
  | [] => rfl
  | b :: bs => by simp [digs, length_digs bs]; omega
theorem digs_append : ∀ a b : List UInt8, digs (a ++ b) = digs a ++ digs b
  | [], _ => rfl
  | x :: xs, b => by simp [digs, digs_append xs b]
/-- The bytes of a command's parts. -/
def wsz : List Wt → Nat
  | [] => 0
  | x :: xs => x.object.length + x.delta.length + 20 + wsz xs
theorem length_wts : ∀ l : List Wt, (wts l).length ≤ wsz l
  | [] => Nat.le_refl _
  | x :: xs => by
    have := length_wts xs
    have := length_bts x.object
    have := length_bts x.delta
    simp [wts, wsz]; omega
/-- A bound of the length of the encoding. -/
def csz (x : Cm) : Nat := 60 + wsz x.writes + x.tag.length
theorem length_head (x : Cm) : (head x).length ≤ 40 := by
  have := Wire.length_int x.client
  have := Wire.length_int x.seq
  have := Wire.length_int x.kind
  have := Wire.length_uint (BitVec.ofNat 64 x.writes.length)
  simp [head]; omega
theorem length_bare (x : Cm) : (bare x).length ≤ 50 + wsz x.writes := by
  have := length_head x
  have := length_wts x.writes
  have := Wire.length_int x.replica
  simp [bare]; omega
theorem length_enc (x : Cm) : (enc x).length ≤ csz x := by
  have := length_bare x
  have := length_bts x.tag
  simp [enc, csz]; omega
theorem wsz_take (n : Nat) : ∀ l : List Wt, wsz (l.take n) ≤ wsz l := by
  induction n with
  | zero => intro l; simp [wsz]
  | succ n ih => intro l; cases l with
    | nil => simp
    | cons x xs => simp [wsz, ih xs]
/-- At most 16 commands of at most m bytes each. -/
def Few (m : Nat) (s : List Cm) : Prop := s.length ≤ 16 ∧ ∀ x ∈ s, csz x ≤ m
theorem length_body {m : Nat} : ∀ {s : List Cm}, (∀ x ∈ s, csz x ≤ m) → (body s).length ≤ s.length * (m + 10)
  | [], _ => by simp [body]
  | x :: xs, h => by
    have := length_body (s := xs) (m := m) fun y hy => h y (by simp [hy])
    have h1 := h x (by simp)
    have h2 := length_enc x
    have h3 := length_bts (enc x)
    simp only [body, List.length_append, List.length_cons, Nat.add_mul]; omega
theorem part_sub {p : List UInt8} {s : List Cm} {x : Cm} (h : x ∈ part p s) : x ∈ s := (List.mem_filter.1 h).1
theorem part_len (p : List UInt8) (s : List Cm) : (part p s).length ≤ s.length := List.length_filter_le _ _
theorem part_snoc (p : List UInt8) (s : List Cm) (x : Cm) : part p (s ++ [x]) = part p s ++ if p.isPrefixOf (digs (enc x)) then [x] else [] := by
  simp only [part, List.filter_append, List.filter_cons, List.filter_nil]
end Sy

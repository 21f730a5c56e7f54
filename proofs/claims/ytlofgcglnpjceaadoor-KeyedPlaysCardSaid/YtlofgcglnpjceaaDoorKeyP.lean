/-
  Keyed digests, in plain Lean.
-/
import Derived.Test.YtlofgcglnpjceaaDoorSha
import Derived.Test.YtlofgcglnpjceaaDoorWireP
namespace Keyed
/-- A key of 64 bytes combined with a byte. -/
def mixed (k : List UInt8) (x : UInt8) : List UInt8 := (k ++ List.replicate (64 - k.length) 0).map (· ^^^ x)
/-- A key of more than 64 bytes is replaced by its digest. -/
def short (k : List UInt8) : List UInt8 := if 64 < k.length then Sha.sha k else k
/-- HMAC-SHA-256. -/
def tag (k m : List UInt8) : List UInt8 := Sha.sha (mixed (short k) 92 ++ Sha.sha (mixed (short k) 54 ++ m))
def keyIn (p h : Int) : List UInt8 := Wire.uint 3#64 ++ [107, 101, 121] ++ Wire.int p ++ Wire.int h
/-- The key of a process at a height. -/
def key (s : List UInt8) (p h : Int) : List UInt8 := tag s (keyIn p h)
theorem short_le (k : List UInt8) : (short k).length ≤ 64 := by
  unfold short
  split
  · rw [Sha.length_sha]; omega
  · omega
theorem length_mixed {k : List UInt8} (h : k.length ≤ 64) (x : UInt8) : (mixed k x).length = 64 := by
  simp [mixed]; omega
theorem length_tag (k m : List UInt8) : (tag k m).length = 32 := Sha.length_sha _
theorem length_keyIn (p h : Int) : (keyIn p h).length ≤ 33 := by
  have h1 := Wire.length_uint 3#64
  have h2 := Wire.length_int p
  have h3 := Wire.length_int h
  simp [keyIn]; omega
theorem short_same {k : List UInt8} (h : k.length ≤ 64) : short k = k := by
  unfold short; rw [if_neg (by omega)]
theorem short_short (k : List UInt8) : short (short k) = short k := short_same (short_le k)
/-- A key of more than 64 bytes has the tags of its digest. -/
theorem tag_long {k : List UInt8} (h : 64 < k.length) (m : List UInt8) : tag (Sha.sha k) m = tag k m := by
  have e : short (Sha.sha k) = short k := by
    rw [short_same (by rw [Sha.length_sha]; omega)]; unfold short; rw [if_pos h]
  unfold tag; rw [e]
/-- A key of less than 64 bytes has the tags of the same key followed by a zero. -/
theorem tag_zero {k : List UInt8} (h : k.length < 64) (m : List UInt8) : tag (k ++ [0]) m = tag k m := by
  have e : ∀ x, mixed (short (k ++ [0])) x = mixed (short k) x := by
    intro x
    rw [short_same (by simp; omega), short_same (by omega)]
    unfold mixed
    rw [show 64 - k.length = (64 - (k ++ [0]).length) + 1 by simp; omega, List.replicate_succ, List.append_assoc]
    rfl
  unfold tag; rw [e, e]
end Keyed

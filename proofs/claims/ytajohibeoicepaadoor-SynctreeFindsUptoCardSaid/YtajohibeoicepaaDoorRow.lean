/-
  Rows of words in memory.
-/
import Derived.Test.YtajohibeoicepaaDoorU32
import Derived.Test.YtajohibeoicepaaDoorSha
namespace Go.Pl
def wv (x : BitVec 32) : Value := .int .u32 (n32 x)
/-- 64 cells, the first of which hold the words. -/
def row64 (ws : List (BitVec 32)) : Array Value := (ws.map wv ++ List.replicate (64 - ws.length) (Value.int .u32 0)).toArray
theorem row64_get (ws : List (BitVec 32)) {i : Nat} (h : i < ws.length) : (row64 ws)[i]? = some (.int .u32 (n32 (ws.getD i 0))) := by
  simp [row64, List.getElem?_append, h, wv]
theorem row64_any (ws : List (BitVec 32)) (hl : ws.length ≤ 64) {i : Nat} (h : i < 64) : ∃ v, (row64 ws)[i]? = some v := by
  have : i < (row64 ws).size := by simp [row64]; omega
  exact ⟨_, Array.getElem?_eq_getElem this⟩
theorem row64_set (ws : List (BitVec 32)) (x : BitVec 32) (h : ws.length < 64) : (row64 ws).setIfInBounds ws.length (.int .u32 (n32 x)) = row64 (ws ++ [x]) := by
  apply Array.ext'
  simp only [row64, Array.toList_setIfInBounds]
  rw [List.set_append_right _ _ (by simp)]
  have e : 64 - ws.length = (64 - (ws ++ [x]).length) + 1 := by simp; omega
  rw [e, List.replicate_succ]
  simp [wv]
theorem row64_nil : row64 [] = #[.int .u32 0, .int .u32 0, .int .u32 0, .int .u32 0, .int .u32 0, .int .u32 0, .int .u32 0, .int .u32 0, .int .u32 0, .int .u32 0, .int .u32 0, .int .u32 0, .int .u32 0, .int .u32 0, .int .u32 0, .int .u32 0, .int .u32 0, .int .u32 0, .int .u32 0, .int .u32 0, .int .u32 0, .int .u32 0, .int .u32 0, .int .u32 0, .int .u32 0, .int .u32 0, .int .u32 0, .int .u32 0, .int .u32 0, .int .u32 0, .int .u32 0, .int .u32 0, .int .u32 0, .int .u32 0, .int .u32 0, .int .u32 0, .int .u32 0, .int .u32 0, .int .u32 0, .int .u32 0, .int .u32 0, .int .u32 0, .int .u32 0, .int .u32 0, .int .u32 0, .int .u32 0, .int .u32 0, .int .u32 0, .int .u32 0, .int .u32 0, .int .u32 0, .int .u32 0, .int .u32 0, .int .u32 0, .int .u32 0, .int .u32 0, .int .u32 0, .int .u32 0, .int .u32 0, .int .u32 0, .int .u32 0, .int .u32 0, .int .u32 0, .int .u32 0] := rfl
/-- The eight words as cells. -/
def st (s : Sha.S8) : Array Value := #[.int .u32 (n32 s.a), .int .u32 (n32 s.b), .int .u32 (n32 s.c), .int .u32 (n32 s.d), .int .u32 (n32 s.e), .int .u32 (n32 s.f), .int .u32 (n32 s.g), .int .u32 (n32 s.h)]
def nth8 (s : Sha.S8) : Nat → BitVec 32
  | 0 => s.a | 1 => s.b | 2 => s.c | 3 => s.d | 4 => s.e | 5 => s.f | 6 => s.g | _ => s.h
theorem st_get (s : Sha.S8) (k : Nat) (h : k < 8) : (st s)[k]? = some (.int .u32 (n32 (nth8 s k))) := by
  match k, h with
  | 0, _ => rfl
  | 1, _ => rfl
  | 2, _ => rfl
  | 3, _ => rfl
  | 4, _ => rfl
  | 5, _ => rfl
  | 6, _ => rfl
  | 7, _ => rfl
/-- The cells of U, to the first k of which those of v have been added. -/
def mix8 (v U : Sha.S8) (k : Nat) : Array Value := ((List.range 8).map fun i => Value.int .u32 (n32 (if i < k then nth8 U i + nth8 v i else nth8 U i))).toArray
theorem mix8_zero (v U : Sha.S8) : mix8 v U 0 = st U := rfl
theorem mix8_end (v U : Sha.S8) : mix8 v U 8 = st (U.add v) := rfl
theorem mix8_get (v U : Sha.S8) (k : Nat) (h : k < 8) : (mix8 v U k)[k]? = some (.int .u32 (n32 (nth8 U k))) := by
  match k, h with
  | 0, _ => rfl
  | 1, _ => rfl
  | 2, _ => rfl
  | 3, _ => rfl
  | 4, _ => rfl
  | 5, _ => rfl
  | 6, _ => rfl
  | 7, _ => rfl
theorem mix8_set (v U : Sha.S8) (k : Nat) (h : k < 8) : (mix8 v U k).setIfInBounds k (.int .u32 (n32 (nth8 U k + nth8 v k))) = mix8 v U (k + 1) := by
  match k, h with
  | 0, _ => rfl
  | 1, _ => rfl
  | 2, _ => rfl
  | 3, _ => rfl
  | 4, _ => rfl
  | 5, _ => rfl
  | 6, _ => rfl
  | 7, _ => rfl
theorem of_size8 (z : Array Value) (h : z.size = 8) : ∃ a b c d e f g i, z = #[a, b, c, d, e, f, g, i] := by
  obtain ⟨l⟩ := z
  match l, h with
  | [a, b, c, d, e, f, g, i], _ => exact ⟨a, b, c, d, e, f, g, i, rfl⟩
theorem n32_of_u8 (b : UInt8) : (b.toNat : Int) = n32 (b.toBitVec.setWidth 32) := by
  unfold n32
  rw [BitVec.toNat_setWidth]
  have := b.toNat_lt
  have h : b.toBitVec.toNat = b.toNat := rfl
  rw [h]; omega
theorem wrap_u8_u32 (b : UInt8) : IntKind.u32.wrap (b.toNat : Int) = n32 (b.toBitVec.setWidth 32) := by
  rw [n32_of_u8]; unfold n32; exact back_n32 _
@[go_sem high] theorem convert_u8_u32 {P : Program} (w : World) (src dst : TypeId) (b : UInt8) (hs : (P.underlying src).isSome = true)
    (hd : P.underlying dst = some (.int .u32)) : (convert src dst (.int .u8 (b.toNat : Int))).run P w = .ok (.int .u32 (n32 (b.toBitVec.setWidth 32))) w := by
  obtain ⟨d, hd'⟩ := Option.isSome_iff_exists.mp hs
  simp [convert, run_underlying hd', run_underlying hd, Conv.intToInt, wrap_u8_u32]
end Go.Pl

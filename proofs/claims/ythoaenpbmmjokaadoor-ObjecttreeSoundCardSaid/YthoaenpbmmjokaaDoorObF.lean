/-
  What a proof leads to.
-/
import Derived.Test.YthoaenpbmmjokaaDoorObAcc
namespace Ob
/-- Where the computation begins: the digest, the byte strings whose digests were taken, the steps. -/
def startP (x : It) : Option (List UInt8 × List (List UInt8) × List (List UInt8)) :=
  if x.present = true then some (leafH x.key x.content, [x.content, leafB x.key (Sha.sha x.content)], x.path)
  else if x.content = [] then
    match x.path.getLast? with
    | none => some (Sha.sha [2], [[2]], [])
    | some l =>
      if 32 ≤ l.length ∧ l.length ≤ 65568 ∧ l.take (l.length - 32) ≠ x.key then
        some (Sha.sha (leafB (l.take (l.length - 32)) (l.drop (l.length - 32))), [leafB (l.take (l.length - 32)) (l.drop (l.length - 32))], x.path.dropLast)
      else none
  else none
/-- The number of a step. -/
def val4 (s : List UInt8) : Nat := (s.getD 0 0).toNat * 16777216 + (s.getD 1 0).toNat * 65536 + (s.getD 2 0).toNat * 256 + (s.getD 3 0).toNat
theorem val4_lt (s : List UInt8) : val4 s < 4294967296 := by
  unfold val4
  have := (s.getD 0 0).toNat_lt
  have := (s.getD 1 0).toNat_lt
  have := (s.getD 2 0).toNat_lt
  have := (s.getD 3 0).toNat_lt
  omega
/-- The bytes of a node on the way. -/
def stepB (key : Key) (s d : List UInt8) : List UInt8 := if bitN key (val4 s) = 0 then nodeB (val4 s) d (s.drop 4) else nodeB (val4 s) (s.drop 4) d
/-- From step to step, upwards. -/
def climb (key : Key) : List (List UInt8) → Nat → List UInt8 → List (List UInt8) → Option (List UInt8 × List (List UInt8))
  | [], _, d, tk => some (d, tk)
  | s :: r, above, d, tk => if s.length = 36 ∧ val4 s < above then climb key r (val4 s) (Sha.sha (stepB key s d)) (tk ++ [stepB key s d]) else none
/-- The root that a proof leads to, and the byte strings whose digests are taken. -/
def followP (x : It) : Option (List UInt8 × List (List UInt8)) :=
  if x.key.length ≤ 65536 then
    match startP x with
    | none => none
    | some (d, tk, st) => climb x.key st.reverse 4294967296 d tk
  else none
def checkP (root : List UInt8) (x : It) : Bool :=
  match followP x with
  | none => false
  | some (d, _) => d == root
end Ob
namespace Go.Pl
open Go.RowKit
variable {P : Program} {ops : Array Oper} {rest : List Oper} {o : Oper} {a : Act} {Q : Exit → Act → World → Prop} {w : World}
theorem wpq_slice_toz_w {C : World → Prop} {R : Act → Prop} (hgd : Region.wanted o (yielded ops a.tmps) = true) (t : TypeId) (x y : Operand) (ho : o.op = .slice t x none (some y) none) (e : TypeId) (sz : Nat) (ht : P.underlying t = some (.slice e)) (hi : (P.info? e).map (·.size) = some sz)
    (A : Option Addr) (n c : Nat) (hx : a.eval x = .slice A n c) (kl : IntKind) (k : Nat) (hy : a.eval y = .int kl (k : Int)) (hk : k ≤ c)
    (h : wpQuiet P ops C R rest (a.put o.dst (.slice A k c))) : wpQuiet P ops C R (o :: rest) a :=
  BigFrame.wpQuiet_want hgd fun K hK => ⟨_, fun w hw => by
    unfold Oper.quietAt execOp
    simp only [ho, hx, Option.map_some, Option.map_none, hy, Sem.run_bind, run_sliceAt_toz t e sz ht hi A n c k kl hk, Result.andThen_ok, Sem.run_pure]
    exact ⟨rfl, rfl⟩, hK _ h⟩
theorem RdS.to {S : Nat → Prop} {A : Option Addr} {n c : Nat} {xs : List (List UInt8)} (h : RdS w S A n c xs) {k : Nat} (hk : k ≤ n) : RdS w S A k c (xs.take k) := by
  obtain ⟨vs, h1, h2⟩ := h
  have := h1.to hk
  rw [Nat.mul_one] at this
  exact ⟨_, this, h2.take k⟩
end Go.Pl

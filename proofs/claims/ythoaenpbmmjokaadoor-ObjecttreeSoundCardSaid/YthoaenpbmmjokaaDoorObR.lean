/-
  The root of a map.
-/
import Derived.Test.YthoaenpbmmjokaaDoorObM
namespace Ob
/-- The digest of the tree of a map. -/
def rootH (xs : List It) : List UInt8 :=
  match xs with
  | [] => Sha.sha [2]
  | [x] => leafH x.key x.content
  | x :: y :: r =>
    if _h : 0 < zeros (top (x :: y :: r)) (x :: y :: r) ∧ zeros (top (x :: y :: r)) (x :: y :: r) < (x :: y :: r).length then
      Sha.sha (nodeB (top (x :: y :: r)).toNat (rootH ((x :: y :: r).take (zeros (top (x :: y :: r)) (x :: y :: r)))) (rootH ((x :: y :: r).drop (zeros (top (x :: y :: r)) (x :: y :: r)))))
    else []
termination_by xs.length
decreasing_by
  · simp only [List.length_take] at *; omega
  · simp only [List.length_drop] at *; omega
theorem rootH_nil : rootH [] = Sha.sha [2] := by rw [rootH]
theorem rootH_one (x : It) : rootH [x] = leafH x.key x.content := by rw [rootH]
theorem rootH_two {xs : List It} {t : Nat} (h2 : 2 ≤ xs.length) (ht : top xs = t) (h0 : 0 < zeros t xs) (h1 : zeros t xs < xs.length) : rootH xs = Sha.sha (nodeB t (rootH (xs.take (zeros t xs))) (rootH (xs.drop (zeros t xs)))) := by
  match xs, h2 with
  | x :: y :: r, _ =>
    rw [rootH, ht, dif_pos ⟨h0, h1⟩]
    rfl
theorem rootH_le (xs : List It) : (rootH xs).length ≤ 32 := by
  unfold rootH
  split
  · exact Nat.le_of_eq (Sha.length_sha _)
  · exact Nat.le_of_eq (Sha.length_sha _)
  · split
    · exact Nat.le_of_eq (Sha.length_sha _)
    · exact Nat.zero_le _
end Ob

/-
  Maps: sorted lists of items, their parts.
-/
import Derived.Test.YthoaenpbmmjokaaDoorObO
import Derived.Test.YthoaenpbmmjokaaDoorObHalf
namespace Ob
open Go.Op
/-- The keys ascend. -/
def Asc (xs : List It) : Prop := xs.Pairwise fun x y => bytesLess x.key y.key = true
theorem Asc.take {xs : List It} (h : Asc xs) (k : Nat) : Asc (xs.take k) := h.sublist (List.take_sublist k xs)
theorem Asc.drop {xs : List It} (h : Asc xs) (k : Nat) : Asc (xs.drop k) := h.sublist (List.drop_sublist k xs)
theorem top_at {xs : List It} {x y : It} (h0 : xs[0]? = some x) (h1 : xs[xs.length - 1]? = some y) : top xs = split x.key y.key := by
  unfold top
  rw [List.headD_eq_head?_getD, List.head?_eq_getElem?, h0, List.getLastD_eq_getLast?, List.getLast?_eq_getElem?, h1]; rfl
/-- A map of two or more items: its top bit is a number, and both parts have items. -/
theorem Asc.parts {xs : List It} (h : Asc xs) (h2 : 2 ≤ xs.length) : ∃ (x y : It) (t : Nat), xs[0]? = some x ∧ xs[xs.length - 1]? = some y ∧ bytesLess x.key y.key = true ∧ t = splitN x.key y.key ∧ top xs = t ∧ 0 < zeros t xs ∧ zeros t xs < xs.length := by
  obtain ⟨x, h0⟩ : ∃ x, xs[0]? = some x := ⟨_, List.getElem?_eq_getElem (by omega)⟩
  obtain ⟨y, h1⟩ : ∃ x, xs[xs.length - 1]? = some x := ⟨_, List.getElem?_eq_getElem (by omega)⟩
  have hl : bytesLess x.key y.key = true := by
    obtain ⟨i0, e0⟩ := List.getElem?_eq_some_iff.1 h0
    obtain ⟨i1, e1⟩ := List.getElem?_eq_some_iff.1 h1
    have := List.pairwise_iff_getElem.1 h 0 (xs.length - 1) i0 i1 (by omega)
    rwa [e0, e1] at this
  have hb := less_bits hl
  have ht : top xs = (splitN x.key y.key : Nat) := by rw [top_at h0 h1, split, if_neg (ne_of_less hl)]
  refine ⟨x, y, _, h0, h1, hl, rfl, ht, ?_, ?_⟩
  · refine Nat.pos_of_ne_zero fun e => ?_
    have := zeros_at (b := (splitN x.key y.key : Nat)) (xs := xs) (x := x) (by rw [e]; exact h0)
    rw [bit_nat] at this
    omega
  · refine Nat.lt_of_le_of_ne (zeros_le _ _) fun e => ?_
    obtain ⟨z, k1, k2⟩ := zeros_lt (b := (splitN x.key y.key : Nat)) (xs := xs) (i := xs.length - 1) (by omega)
    rw [h1] at k1
    cases k1
    rw [bit_nat] at k2
    omega
end Ob

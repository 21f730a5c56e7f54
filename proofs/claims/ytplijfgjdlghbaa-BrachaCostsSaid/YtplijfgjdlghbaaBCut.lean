/-
  A message taken from among the pending ones.
-/
import Derived.Test.YtplijfgjdlghbaaCut
import Derived.Test.YtplijfgjdlghbaaBMod
namespace Go.Pl
open Go.RowKit
theorem PksIs.erase {w : World} {S : Nat → Prop} : ∀ {ms : List Bra.Pkt} {vs : List Value} (k : Nat), PksIs w S ms vs → PksIs w S (ms.eraseIdx k) (vs.take (k * 6) ++ vs.drop ((k + 1) * 6))
  | [], _, k, h => by cases h; simp [PksIs]
  | m :: ms, _, 0, ⟨s, r, h1, h2, h3⟩ => by
    rw [h1]
    simp only [Nat.zero_mul, List.take_zero, List.nil_append, List.eraseIdx_cons_zero]
    exact h3
  | m :: ms, _, k + 1, ⟨s, r, h1, h2, h3⟩ => by
    rw [h1, List.eraseIdx_cons_succ]
    refine ⟨s, r.take (k * 6) ++ r.drop ((k + 1) * 6), ?_, h2, h3.erase k⟩
    have e1 : (pkv m s).length = 6 := rfl
    rw [← List.append_assoc, List.take_append, e1, List.take_of_length_le (by rw [e1]; omega), show (k + 1) * 6 - 6 = k * 6 by omega, List.drop_append, e1, List.drop_of_length_le (by rw [e1]; omega), List.nil_append, show (k + 1 + 1) * 6 - 6 = (k + 1) * 6 by omega]
theorem PksIs.tail {w : World} {S : Nat → Prop} {m : Bra.Pkt} {ms : List Bra.Pkt} {vs : List Value} (h : PksIs w S (m :: ms) vs) : PksIs w S ms (vs.drop 6) := by
  obtain ⟨s, r, h1, h2, h3⟩ := h
  rw [h1]
  exact h3
end Go.Pl

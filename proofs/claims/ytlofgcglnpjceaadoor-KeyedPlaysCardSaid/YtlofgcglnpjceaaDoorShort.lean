/-
  'short', and what the laws share.
-/
import Derived.Test.YtlofgcglnpjceaaDoorAwake5
namespace Go.Proofs.YtlofgcglnpjceaaDoor
open Go.RowKit Go.Pl
set_option maxRecDepth 100000 in
theorem short_any (A1 A2 : Option Addr) (n1 c1 n2 c2 : Nat) (w : World) :
    Calls Tryd.prog 11 #[.slice A1 n1 c1, .slice A2 n2 c2] w fun e w' => e = .returned (.bool (decide (n1 ≤ 2000 ∧ n2 ≤ 2000))) ∧ w' = w := by
  by_cases h1 : n1 ≤ 2000
  · have h1' : (n1 : Int) ≤ 2000 := by omega
    by_cases h2 : n2 ≤ 2000
    · have h2' : (n2 : Int) ≤ 2000 := by omega
      rw [show decide (n1 ≤ 2000 ∧ n2 ≤ 2000) = true from decide_eq_true ⟨h1, h2⟩]
      go_enter Tryd.func11, Tryd.ntmps11
      go_wp2_with fail
      go_ret
      exact ⟨rfl, rfl⟩
    · have h2' : ¬ (n2 : Int) ≤ 2000 := by omega
      rw [show decide (n1 ≤ 2000 ∧ n2 ≤ 2000) = false from decide_eq_false fun h => h2 h.2]
      go_enter Tryd.func11, Tryd.ntmps11
      go_wp2_with fail
      go_ret
      exact ⟨rfl, rfl⟩
  · have h1' : ¬ (n1 : Int) ≤ 2000 := by omega
    rw [show decide (n1 ≤ 2000 ∧ n2 ≤ 2000) = false from decide_eq_false fun h => h1 h.1]
    go_enter Tryd.func11, Tryd.ntmps11
    go_wp2_with fail
    go_ret
    exact ⟨rfl, rfl⟩
theorem Rd.up' {w w' : World} {S : Nat → Prop} {A : Option Addr} {n c : Nat} {bs : List UInt8} (h : Rd w S A n c bs) (hb : Below w.heap.size w w') : Rd w' S A n c bs := h.ab hb
theorem Digged.rd {w w' : World} {bs : List UInt8} {e : Ending} (h : Digged w bs e w') : ∃ A n c, e = .returned (.slice A n c) ∧ Rd w' (fun _ => True) A n c bs ∧ Below w.heap.size w w' := by
  obtain ⟨g, n, c, hn, rfl, hg, hd, hb⟩ := h
  subst hn
  exact ⟨_, _, _, rfl, hd.rd.mono (fun _ _ _ => trivial), hb⟩
end Go.Proofs.YtlofgcglnpjceaaDoor

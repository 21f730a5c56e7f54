/-
  Two states: their commands are small.
-/
import Derived.Test.YtajohibeoicepaaDoorSyArg
import Derived.Test.YtajohibeoicepaaDoorSyAwk
import Derived.Test.YtajohibeoicepaaDoorSySta
namespace Sy
theorem wsz_le {m : Nat} : ∀ {l : List Wt}, (∀ v ∈ l, v.object.length + v.delta.length ≤ m) → wsz l ≤ l.length * (m + 20)
  | [], _ => by simp [wsz]
  | x :: l, h => by
    have h1 := wsz_le (l := l) fun v hv => h v (List.mem_cons_of_mem _ hv)
    have h2 := h x List.mem_cons_self
    rw [List.length_cons, Nat.succ_mul]
    simp only [wsz]
    omega
/-- The commands of a state are small. -/
theorem State.csz {s : List Cm} (h : State s) : ∀ x ∈ s, csz x ≤ 1000 := by
  intro x hx
  obtain ⟨i, hi, rfl⟩ := List.getElem_of_mem hx
  obtain ⟨y, hy, ⟨h1, h2, h3⟩, -⟩ := h.2 i hi
  rw [List.getElem?_eq_getElem hi] at hy
  cases hy
  have h4 : wsz (s[i]).writes ≤ (s[i]).writes.length * (56 + 20) := wsz_le fun v hv => by
    obtain ⟨k, hk, rfl⟩ := List.getElem_of_mem hv
    have := h3 k _ (List.getElem?_eq_getElem hk)
    omega
  have h5 : (s[i]).writes.length * (56 + 20) ≤ 4 * (56 + 20) := Nat.mul_le_mul_right _ h1
  unfold Sy.csz
  omega
end Sy
namespace Go.Proofs.YtajohibeoicepaaDoor
open Go.RowKit Go.Pl
theorem bs_at {w : World} {S : Nat → Prop} {A : Option Addr} {n c k : Nat} {l : List (List UInt8)} {x : List UInt8} (h : RdE lBytes w S A n c l) (hx : l[k]? = some x) : ∃ b o A1 n1 c1, A = some ⟨b, o, none⟩ ∧ b < w.heap.size ∧ Rd w S A1 n1 c1 x ∧
    w.cell? ⟨b, o + k, none⟩ = some (.slice A1 n1 c1) := by
  obtain ⟨b, o, u, rfl, -, hb, ⟨A1, n1, c1, rfl, h1⟩, hc⟩ := h.get hx
  have h2 : w.cell? ⟨b, o + k * 1 + 0, none⟩ = _ := hc 0 _ rfl
  rw [Nat.mul_one, Nat.add_zero] at h2
  exact ⟨b, o, A1, n1, c1, rfl, hb, h1, h2⟩
end Go.Proofs.YtajohibeoicepaaDoor

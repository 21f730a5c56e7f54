/-
  A row of the call's own whose elements lead to memory, appended to.
-/
import Derived.Test.YtajohibeoicepaaDoorSyAt
namespace Go.Pl
open Go.RowKit
section
variable {α : Type} {L : Lay α} {w w' : World} {S : Nat → Prop} {B n : Nat} {e : TypeId} {v : Value} {xs ys : List α}
/-- A row of the call's own; what its elements lead to lies in S, and not in the row. -/
def OwnX (L : Lay α) (w : World) (S : Nat → Prop) (B : Nat) (e : TypeId) (v : Value) (n : Nat) (xs : List α) : Prop := ∃ vs, w.ownsRow B e L.k v n vs ∧ Els L w (fun i => S i ∧ v.ownBlock ≠ some i) xs vs
theorem OwnX.nil (L : Lay α) (w : World) (S : Nat → Prop) (B : Nat) (e : TypeId) : OwnX L w S B e (.slice none 0 0) 0 [] := ⟨[], World.ownsRow_nil _ _ _ _, rfl⟩
theorem OwnX.len (h : OwnX L w S B e v n xs) : n = xs.length := by
  obtain ⟨vs, h1, h2⟩ := h
  have e1 := h1.1
  have e2 := h2.len
  exact Nat.eq_of_mul_eq_mul_right L.pos (by rw [← e1, e2])
theorem OwnX.up (h : OwnX L w S B e v n xs) (hb : Below w.heap.size w w') : OwnX L w' S B e v n xs := by
  obtain ⟨vs, h1, h2⟩ := h
  exact ⟨vs, own_upd h1 hb, h2.fr (Fr.of_below (F := fun _ => False) hb) (fun _ _ h => h)⟩
theorem OwnX.slice (h : OwnX L w S B e v n xs) : ∃ A c, v = .slice A n c := by
  obtain ⟨vs, h1, h2⟩ := h
  rcases h1.2 with ⟨rfl, rfl⟩ | ⟨g, cap, cur, rfl, -⟩
  · exact ⟨none, 0, rfl⟩
  · exact ⟨_, _, rfl⟩
theorem OwnX.rd {A : Option Addr} {c : Nat} (h : OwnX L w S B e (.slice A n c) n xs) : RdE L w (fun i => S i ∨ B ≤ i) A n c xs := by
  obtain ⟨vs, h1, h2⟩ := h
  exact ⟨vs, (own_row h1).mono (fun i _ hi => .inr (own_lt h1 i hi).1), h2.mono (fun i _ hi => .inl hi.1)⟩
/-- Behind an append. -/
theorem OwnX.app {A : Option Addr} {c N : Nat} {vs us : List Value} (hE : Els L w (fun i => S i ∧ v.ownBlock ≠ some i) xs vs) (hy : Els L w (fun i => S i ∧ v.ownBlock ≠ some i) ys us) (ho : w'.ownsRow B e L.k (.slice A N c) N (vs ++ us))
    (hg : w.grownBy w' v.ownBlock) (hb : (Value.slice A N c).ownBlock = v.ownBlock ∨ (Value.slice A N c).ownBlock = some w.heap.size) : OwnX L w' S B e (.slice A N c) N (xs ++ ys) := by
  refine ⟨_, ho, ?_⟩
  have hf : Fr (fun i => v.ownBlock = some i) w w' := (Fr.refl _ _).grown hg (fun k e => .inl e)
  have h : Els L w (fun i => (S i ∧ v.ownBlock ≠ some i) ∧ (Value.slice A N c).ownBlock ≠ some i) (xs ++ ys) (vs ++ us) := (hE.append hy).mono (fun i hi h => ⟨h, by
    rcases hb with hb | hb
    · rw [hb]; exact h.2
    · rw [hb]; intro e; have := Option.some.inj e; omega⟩)
  exact (h.fr hf (fun i h => h.1.2)).mono (fun i _ h => ⟨h.1.1, h.2⟩)
/-- The values of a slice, which lie elsewhere than the row. -/
theorem RdE.els {A : Option Addr} {c m : Nat} (h : RdE L w S A m c ys) : ∃ us, Row w S L.k A m c us ∧ Els L w S ys us := h
end
/-- What an append leaves, below B. -/
theorem app_below {B : Nat} {w w1 w' : World} {row : Option Nat} (h1 : Below B w w1) (hg : w1.grownBy w' row) (hr : ∀ k, row = some k → B ≤ k) (hB : B ≤ w1.heap.size) : Below B w w' :=
  h1.trans (((Fr.refl (fun i => B ≤ i) w1).grown hg (fun k e => .inl (hr k e))).below (fun _ h => h) hB)
end Go.Pl

/-
  Items of a map in memory.
-/
import Derived.Test.YthoaenpbmmjokaaDoorObP
import Derived.Test.YthoaenpbmmjokaaDoorCut
namespace Ob
/-- An item. -/
structure It where
  key : List UInt8
  present : Bool
  content : List UInt8
  path : List (List UInt8)
end Ob
namespace Go.Pl
open Go.RowKit
/-- A slice that reads as bytes, in blocks of S. -/
def SlIs (w : World) (S : Nat → Prop) (v : Value) (bs : List UInt8) : Prop := ∃ A n c, v = .slice A n c ∧ Rd w S A n c bs
/-- vs are slices that read as the byte slices xs. -/
def SlsIs (w : World) (S : Nat → Prop) : List (List UInt8) → List Value → Prop
  | [], vs => vs = []
  | x :: xs, vs => ∃ s r, vs = s :: r ∧ SlIs w S s x ∧ SlsIs w S xs r
/-- A slice of slices of bytes. -/
def RdS (w : World) (S : Nat → Prop) (A : Option Addr) (n c : Nat) (xs : List (List UInt8)) : Prop := ∃ vs, Row w S 1 A n c vs ∧ SlsIs w S xs vs
/-- A slice of slices of bytes, as a value. -/
def PathIs (w : World) (S : Nat → Prop) (v : Value) (xs : List (List UInt8)) : Prop := ∃ A n c, v = .slice A n c ∧ RdS w S A n c xs
/-- The cells of an item. -/
def itv (x : Ob.It) (s p : Value) : List Value := [.string ⟨x.key.toArray⟩, .bool x.present, s, p]
/-- vs are the cells of the items xs, one after the other. -/
def ItsIs (w : World) (S : Nat → Prop) : List Ob.It → List Value → Prop
  | [], vs => vs = []
  | x :: xs, vs => ∃ s p r, vs = itv x s p ++ r ∧ SlIs w S s x.content ∧ PathIs w S p x.path ∧ ItsIs w S xs r
/-- A slice of items. -/
def RdI (w : World) (S : Nat → Prop) (A : Option Addr) (n c : Nat) (xs : List Ob.It) : Prop := ∃ vs, Row w S 4 A n c vs ∧ ItsIs w S xs vs
section
variable {w w' : World} {S T : Nat → Prop} {v : Value} {bs : List UInt8} {xs : List (List UInt8)}
theorem SlIs.fr {F : Nat → Prop} (h : SlIs w S v bs) (hf : Fr F w w') (hF : ∀ i, S i → ¬ F i) : SlIs w' S v bs := by
  obtain ⟨A, n, c, rfl, r⟩ := h
  exact ⟨A, n, c, rfl, r.fr hf hF⟩
theorem SlIs.mono (h : SlIs w S v bs) (hST : ∀ i, i < w.heap.size → S i → T i) : SlIs w T v bs := by
  obtain ⟨A, n, c, rfl, r⟩ := h
  exact ⟨A, n, c, rfl, r.mono hST⟩
theorem SlsIs.fr {F : Nat → Prop} (hf : Fr F w w') (hF : ∀ i, S i → ¬ F i) : ∀ {xs : List (List UInt8)} {vs : List Value}, SlsIs w S xs vs → SlsIs w' S xs vs
  | [], _, h => h
  | _ :: _, _, ⟨s, r, h1, h2, h3⟩ => ⟨s, r, h1, h2.fr hf hF, h3.fr hf hF⟩
theorem SlsIs.mono (hST : ∀ i, i < w.heap.size → S i → T i) : ∀ {xs : List (List UInt8)} {vs : List Value}, SlsIs w S xs vs → SlsIs w T xs vs
  | [], _, h => h
  | _ :: _, _, ⟨s, r, h1, h2, h3⟩ => ⟨s, r, h1, h2.mono hST, h3.mono hST⟩
theorem SlsIs.len : ∀ {xs : List (List UInt8)} {vs : List Value}, SlsIs w S xs vs → vs.length = xs.length
  | [], _, h => by cases h; rfl
  | _ :: _, _, ⟨s, r, h1, h2, h3⟩ => by rw [h1]; simp [h3.len]
theorem SlsIs.append : ∀ {xs : List (List UInt8)} {vs : List Value} {ys : List (List UInt8)} {us : List Value}, SlsIs w S xs vs → SlsIs w S ys us → SlsIs w S (xs ++ ys) (vs ++ us)
  | [], _, _, _, h, h' => by cases h; simpa using h'
  | _ :: _, _, _, _, ⟨s, r, h1, h2, h3⟩, h' => ⟨s, r ++ _, by rw [h1, List.cons_append], h2, h3.append h'⟩
theorem SlsIs.one {x : List UInt8} {s : Value} (h : SlIs w S s x) : SlsIs w S [x] [s] := ⟨s, [], rfl, h, rfl⟩
theorem SlsIs.get : ∀ {xs : List (List UInt8)} {vs : List Value} {i : Nat} {x : List UInt8}, SlsIs w S xs vs → xs[i]? = some x → ∃ s, SlIs w S s x ∧ vs[i]? = some s
  | [], _, _, _, _, hm => by simp at hm
  | _ :: _, _, 0, _, ⟨s, r, h1, h2, h3⟩, hm => by
    simp only [List.getElem?_cons_zero, Option.some.injEq] at hm
    subst hm
    exact ⟨s, h2, by rw [h1]; rfl⟩
  | _ :: _, _, i + 1, _, ⟨s, r, h1, h2, h3⟩, hm => by
    obtain ⟨s', k1, k2⟩ := h3.get (i := i) (by simpa using hm)
    exact ⟨s', k1, by rw [h1]; simpa using k2⟩
theorem SlsIs.ones : ∀ {xs : List (List UInt8)} {vs : List Value}, SlsIs w S xs vs → ∀ u ∈ vs, u.oneCell' = true
  | [], _, h => by cases h; simp
  | _ :: _, _, ⟨s, r, h1, ⟨A, n, c, hs, _⟩, h3⟩ => by
    intro u hu
    rw [h1] at hu
    rcases List.mem_cons.1 hu with rfl | hu
    · rw [hs]; rfl
    · exact h3.ones u hu
theorem SlsIs.take : ∀ {xs : List (List UInt8)} {vs : List Value} (k : Nat), SlsIs w S xs vs → SlsIs w S (xs.take k) (vs.take k)
  | [], _, k, h => by cases h; simp [SlsIs]
  | _ :: _, _, 0, _ => by simp [SlsIs]
  | _ :: _, _, k + 1, ⟨s, r, h1, h2, h3⟩ => ⟨s, r.take k, by rw [h1]; rfl, h2, h3.take k⟩
theorem RdS.len {A : Option Addr} {n c : Nat} (h : RdS w S A n c xs) : n = xs.length := by
  obtain ⟨vs, h1, h2⟩ := h
  have := h1.len
  have := h2.len
  omega
theorem RdS.fr {F : Nat → Prop} {A : Option Addr} {n c : Nat} (h : RdS w S A n c xs) (hf : Fr F w w') (hF : ∀ i, S i → ¬ F i) : RdS w' S A n c xs := by
  obtain ⟨vs, h1, h2⟩ := h
  exact ⟨vs, h1.fr hf hF, h2.fr hf hF⟩
theorem RdS.mono {A : Option Addr} {n c : Nat} (h : RdS w S A n c xs) (hST : ∀ i, i < w.heap.size → S i → T i) : RdS w T A n c xs := by
  obtain ⟨vs, h1, h2⟩ := h
  exact ⟨vs, h1.mono hST, h2.mono hST⟩
theorem RdS.nil (w : World) (S : Nat → Prop) : RdS w S none 0 0 [] := ⟨[], Row.nil w S 1, rfl⟩
theorem PathIs.fr {F : Nat → Prop} (h : PathIs w S v xs) (hf : Fr F w w') (hF : ∀ i, S i → ¬ F i) : PathIs w' S v xs := by
  obtain ⟨A, n, c, rfl, r⟩ := h
  exact ⟨A, n, c, rfl, r.fr hf hF⟩
theorem PathIs.mono (h : PathIs w S v xs) (hST : ∀ i, i < w.heap.size → S i → T i) : PathIs w T v xs := by
  obtain ⟨A, n, c, rfl, r⟩ := h
  exact ⟨A, n, c, rfl, r.mono hST⟩
theorem ItsIs.fr {F : Nat → Prop} (hf : Fr F w w') (hF : ∀ i, S i → ¬ F i) : ∀ {xs : List Ob.It} {vs : List Value}, ItsIs w S xs vs → ItsIs w' S xs vs
  | [], _, h => h
  | _ :: _, _, ⟨s, p, r, h1, h2, h3, h4⟩ => ⟨s, p, r, h1, h2.fr hf hF, h3.fr hf hF, h4.fr hf hF⟩
theorem ItsIs.mono (hST : ∀ i, i < w.heap.size → S i → T i) : ∀ {xs : List Ob.It} {vs : List Value}, ItsIs w S xs vs → ItsIs w T xs vs
  | [], _, h => h
  | _ :: _, _, ⟨s, p, r, h1, h2, h3, h4⟩ => ⟨s, p, r, h1, h2.mono hST, h3.mono hST, h4.mono hST⟩
theorem ItsIs.len : ∀ {xs : List Ob.It} {vs : List Value}, ItsIs w S xs vs → vs.length = xs.length * 4
  | [], _, h => by cases h; rfl
  | _ :: _, _, ⟨s, p, r, h1, h2, h3, h4⟩ => by have := h4.len; rw [h1]; simp [itv, this]; omega
theorem ItsIs.take : ∀ {xs : List Ob.It} {vs : List Value} (k : Nat), ItsIs w S xs vs → ItsIs w S (xs.take k) (vs.take (k * 4))
  | [], _, k, h => by cases h; simp [ItsIs]
  | _ :: _, _, 0, _ => by simp [ItsIs]
  | x :: _, _, k + 1, ⟨s, p, r, h1, h2, h3, h4⟩ => ⟨s, p, r.take (k * 4), by
      rw [h1, show (k + 1) * 4 = (itv x s p).length + k * 4 by simp [itv]; omega, List.take_length_add_append], h2, h3, h4.take k⟩
theorem ItsIs.drop : ∀ {xs : List Ob.It} {vs : List Value} (k : Nat), ItsIs w S xs vs → ItsIs w S (xs.drop k) (vs.drop (k * 4))
  | [], _, k, h => by cases h; simp [ItsIs]
  | x :: xs, vs, 0, h => by simpa using h
  | x :: xs, _, k + 1, ⟨s, p, r, h1, h2, h3, h4⟩ => by
    rw [h1, show (k + 1) * 4 = (itv x s p).length + k * 4 by simp [itv]; omega, List.drop_length_add_append]
    exact h4.drop k
theorem ItsIs.get : ∀ {xs : List Ob.It} {vs : List Value} {i : Nat} {x : Ob.It}, ItsIs w S xs vs → xs[i]? = some x → ∃ s p, SlIs w S s x.content ∧ PathIs w S p x.path ∧ ∀ j v, (itv x s p)[j]? = some v → vs[i * 4 + j]? = some v
  | [], _, _, _, _, hm => by simp at hm
  | _ :: _, _, 0, _, ⟨s, p, r, h1, h2, h3, h4⟩, hm => by
    simp only [List.getElem?_cons_zero, Option.some.injEq] at hm
    subst hm
    refine ⟨s, p, h2, h3, fun j v hj => ?_⟩
    have hl := (List.getElem?_eq_some_iff.1 hj).1
    rw [h1, Nat.zero_mul, Nat.zero_add, List.getElem?_append_left hl, hj]
  | y :: _, _, i + 1, _, ⟨s, p, r, h1, h2, h3, h4⟩, hm => by
    obtain ⟨s', p', k1, k2, k3⟩ := h4.get (i := i) (by simpa using hm)
    refine ⟨s', p', k1, k2, fun j v hj => ?_⟩
    rw [h1, List.getElem?_append_right (by simp [itv]; omega), show (i + 1) * 4 + j - (itv y s p).length = i * 4 + j by simp [itv]; omega]
    exact k3 j v hj
end
section
variable {w w' : World} {S T : Nat → Prop} {A : Option Addr} {n c : Nat} {xs : List Ob.It}
theorem RdI.len (h : RdI w S A n c xs) : n = xs.length := by
  obtain ⟨vs, h1, h2⟩ := h
  have := h1.len
  have := h2.len
  omega
theorem RdI.le (h : RdI w S A n c xs) : n ≤ c ∧ c ≤ maxLen := by
  obtain ⟨vs, h1, h2⟩ := h
  exact ⟨h1.le, h1.max⟩
theorem RdI.fr {F : Nat → Prop} (h : RdI w S A n c xs) (hf : Fr F w w') (hF : ∀ i, S i → ¬ F i) : RdI w' S A n c xs := by
  obtain ⟨vs, h1, h2⟩ := h
  exact ⟨vs, h1.fr hf hF, h2.fr hf hF⟩
theorem RdI.mono (h : RdI w S A n c xs) (hST : ∀ i, i < w.heap.size → S i → T i) : RdI w T A n c xs := by
  obtain ⟨vs, h1, h2⟩ := h
  exact ⟨vs, h1.mono hST, h2.mono hST⟩
theorem RdI.to (h : RdI w S A n c xs) {k : Nat} (hk : k ≤ n) : RdI w S A k c (xs.take k) := by
  obtain ⟨vs, h1, h2⟩ := h
  exact ⟨_, h1.to hk, h2.take k⟩
theorem RdI.from_ (h : RdI w S A n c xs) {k : Nat} (hk : k ≤ n) : RdI w S (if c = k then A else A.map (·.add (k * 4))) (n - k) (c - k) (xs.drop k) := by
  obtain ⟨vs, h1, h2⟩ := h
  exact ⟨_, h1.from_ hk, h2.drop k⟩
theorem RdI.get (h : RdI w S A n c xs) {i : Nat} {x : Ob.It} (hm : xs[i]? = some x) : ∃ b o s p, A = some ⟨b, o, none⟩ ∧ S b ∧ b < w.heap.size ∧ SlIs w S s x.content ∧ PathIs w S p x.path ∧
    w.cell? ⟨b, o + i * 4, none⟩ = some (.string ⟨x.key.toArray⟩) ∧ w.cell? ⟨b, o + i * 4 + 1, none⟩ = some (.bool x.present) ∧ w.cell? ⟨b, o + i * 4 + 2, none⟩ = some s ∧ w.cell? ⟨b, o + i * 4 + 3, none⟩ = some p := by
  have hl := h.len
  obtain ⟨vs, h1, h2⟩ := h
  have hi := (List.getElem?_eq_some_iff.1 hm).1
  obtain ⟨b, o, hA, hS, hb, hc⟩ := h1.at_ (by omega)
  obtain ⟨s, p, k1, k2, k3⟩ := h2.get hm
  refine ⟨b, o, s, p, hA, hS, hb, k1, k2, ?_, ?_, ?_, ?_⟩
  · rw [hc (i * 4) (by omega)]; exact k3 0 _ rfl
  · rw [Nat.add_assoc, hc (i * 4 + 1) (by omega)]; exact k3 1 _ rfl
  · rw [Nat.add_assoc, hc (i * 4 + 2) (by omega)]; exact k3 2 _ rfl
  · rw [Nat.add_assoc, hc (i * 4 + 3) (by omega)]; exact k3 3 _ rfl
end
end Go.Pl

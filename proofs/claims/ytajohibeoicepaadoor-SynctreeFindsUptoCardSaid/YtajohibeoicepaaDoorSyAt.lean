/-
  Lists of structs in memory, whatever the struct; commands and digests in memory.
-/
import Derived.Test.YtajohibeoicepaaDoorSyP
import Derived.Test.YtajohibeoicepaaDoorCut
namespace Go.Pl
open Go.RowKit
/-- How a value of a type lies in memory: in so many cells. -/
structure Lay (α : Type) where
  k : Nat
  R : World → (Nat → Prop) → α → List Value → Prop
  pos : 0 < k
  len : ∀ {w S x vs}, R w S x vs → vs.length = k
  one : ∀ {w S x vs}, R w S x vs → ∀ u ∈ vs, u.oneCell' = true
  fr : ∀ {w w' : World} {S F : Nat → Prop} {x vs}, R w S x vs → Fr F w w' → (∀ i, S i → ¬ F i) → R w' S x vs
  mono : ∀ {w : World} {S T : Nat → Prop} {x vs}, R w S x vs → (∀ i, i < w.heap.size → S i → T i) → R w T x vs
section
variable {α : Type} {L : Lay α} {w w' : World} {S T : Nat → Prop}
/-- vs are the cells of the values xs, one after the other. -/
def Els (L : Lay α) (w : World) (S : Nat → Prop) : List α → List Value → Prop
  | [], vs => vs = []
  | x :: xs, vs => ∃ u r, vs = u ++ r ∧ L.R w S x u ∧ Els L w S xs r
theorem Els.fr {F : Nat → Prop} (hf : Fr F w w') (hF : ∀ i, S i → ¬ F i) : ∀ {xs : List α} {vs : List Value}, Els L w S xs vs → Els L w' S xs vs
  | [], _, h => h
  | _ :: _, _, ⟨u, r, h1, h2, h3⟩ => ⟨u, r, h1, L.fr h2 hf hF, h3.fr hf hF⟩
theorem Els.mono (hST : ∀ i, i < w.heap.size → S i → T i) : ∀ {xs : List α} {vs : List Value}, Els L w S xs vs → Els L w T xs vs
  | [], _, h => h
  | _ :: _, _, ⟨u, r, h1, h2, h3⟩ => ⟨u, r, h1, L.mono h2 hST, h3.mono hST⟩
theorem Els.len : ∀ {xs : List α} {vs : List Value}, Els L w S xs vs → vs.length = xs.length * L.k
  | [], _, h => by cases h; simp
  | _ :: xs, _, ⟨u, r, h1, h2, h3⟩ => by
    have e1 := h3.len
    have e2 := L.len h2
    rw [h1, List.length_append, e1, e2, List.length_cons, Nat.add_mul]; omega
theorem Els.ones : ∀ {xs : List α} {vs : List Value}, Els L w S xs vs → ∀ u ∈ vs, u.oneCell' = true
  | [], _, h => by cases h; simp
  | _ :: _, _, ⟨u, r, h1, h2, h3⟩ => by
    intro v hv
    rw [h1] at hv
    rcases List.mem_append.1 hv with hv | hv
    · exact L.one h2 v hv
    · exact h3.ones v hv
theorem Els.append : ∀ {xs : List α} {vs : List Value} {ys : List α} {us : List Value}, Els L w S xs vs → Els L w S ys us → Els L w S (xs ++ ys) (vs ++ us)
  | [], _, _, _, h, h' => by cases h; simpa using h'
  | _ :: _, _, _, _, ⟨u, r, h1, h2, h3⟩, h' => ⟨u, r ++ _, by rw [h1, List.append_assoc], h2, h3.append h'⟩
theorem Els.single {x : α} {u : List Value} (h : L.R w S x u) : Els L w S [x] u := ⟨u, [], by simp, h, rfl⟩
theorem Els.take : ∀ {xs : List α} {vs : List Value} (n : Nat), Els L w S xs vs → Els L w S (xs.take n) (vs.take (n * L.k))
  | [], _, n, h => by cases h; simp [Els]
  | _ :: _, _, 0, _ => by simp [Els]
  | x :: _, _, n + 1, ⟨u, r, h1, h2, h3⟩ => ⟨u, r.take (n * L.k), by
      rw [h1, show (n + 1) * L.k = u.length + n * L.k by rw [L.len h2, Nat.add_mul]; omega, List.take_length_add_append], h2, h3.take n⟩
theorem Els.drop : ∀ {xs : List α} {vs : List Value} (n : Nat), Els L w S xs vs → Els L w S (xs.drop n) (vs.drop (n * L.k))
  | [], _, n, h => by cases h; simp [Els]
  | x :: xs, vs, 0, h => by simpa using h
  | x :: xs, _, n + 1, ⟨u, r, h1, h2, h3⟩ => by
    rw [h1, show (n + 1) * L.k = u.length + n * L.k by rw [L.len h2, Nat.add_mul]; omega, List.drop_length_add_append]
    exact h3.drop n
theorem Els.get : ∀ {xs : List α} {vs : List Value} {i : Nat} {x : α}, Els L w S xs vs → xs[i]? = some x → ∃ u, L.R w S x u ∧ ∀ j v, u[j]? = some v → vs[i * L.k + j]? = some v
  | [], _, _, _, _, hm => by simp at hm
  | _ :: _, _, 0, _, ⟨u, r, h1, h2, h3⟩, hm => by
    simp only [List.getElem?_cons_zero, Option.some.injEq] at hm
    subst hm
    refine ⟨u, h2, fun j v hj => ?_⟩
    have hl := (List.getElem?_eq_some_iff.1 hj).1
    rw [h1, Nat.zero_mul, Nat.zero_add, List.getElem?_append_left hl, hj]
  | y :: _, _, i + 1, _, ⟨u, r, h1, h2, h3⟩, hm => by
    obtain ⟨u', k1, k2⟩ := h3.get (i := i) (by simpa using hm)
    refine ⟨u', k1, fun j v hj => ?_⟩
    have hl := L.len h2
    rw [h1, List.getElem?_append_right (by rw [hl, Nat.add_mul]; omega), show (i + 1) * L.k + j - u.length = i * L.k + j by rw [hl, Nat.add_mul]; omega]
    exact k2 j v hj
/-- A slice of such values. -/
def RdE (L : Lay α) (w : World) (S : Nat → Prop) (A : Option Addr) (n c : Nat) (xs : List α) : Prop := ∃ vs, Row w S L.k A n c vs ∧ Els L w S xs vs
variable {A : Option Addr} {n c : Nat} {xs : List α}
theorem RdE.len (h : RdE L w S A n c xs) : n = xs.length := by
  obtain ⟨vs, h1, h2⟩ := h
  have e1 := h1.len
  have e2 := h2.len
  exact Nat.eq_of_mul_eq_mul_right L.pos (by rw [← e1, e2])
theorem RdE.le (h : RdE L w S A n c xs) : n ≤ c ∧ c ≤ maxLen := by
  obtain ⟨vs, h1, h2⟩ := h
  exact ⟨h1.le, h1.max⟩
theorem RdE.fr {F : Nat → Prop} (h : RdE L w S A n c xs) (hf : Fr F w w') (hF : ∀ i, S i → ¬ F i) : RdE L w' S A n c xs := by
  obtain ⟨vs, h1, h2⟩ := h
  exact ⟨vs, h1.fr hf hF, h2.fr hf hF⟩
theorem RdE.mono (h : RdE L w S A n c xs) (hST : ∀ i, i < w.heap.size → S i → T i) : RdE L w T A n c xs := by
  obtain ⟨vs, h1, h2⟩ := h
  exact ⟨vs, h1.mono hST, h2.mono hST⟩
theorem RdE.up (h : RdE L w S A n c xs) (hb : Below w.heap.size w w') : RdE L w' S A n c xs := h.fr (Fr.of_below (F := fun _ => False) hb) (fun _ _ h => h)
theorem RdE.nil (L : Lay α) (w : World) (S : Nat → Prop) : RdE L w S none 0 0 [] := ⟨[], Row.nil w S L.k, rfl⟩
/-- The cells of the i-th value. -/
theorem RdE.get (h : RdE L w S A n c xs) {i : Nat} {x : α} (hm : xs[i]? = some x) : ∃ b o u, A = some ⟨b, o, none⟩ ∧ S b ∧ b < w.heap.size ∧ L.R w S x u ∧
    ∀ j v, u[j]? = some v → w.cell? ⟨b, o + i * L.k + j, none⟩ = some v := by
  have hl := h.len
  obtain ⟨vs, h1, h2⟩ := h
  have hi := (List.getElem?_eq_some_iff.1 hm).1
  obtain ⟨b, o, hA, hS, hb, hc⟩ := h1.at_ (by omega)
  obtain ⟨u, k1, k2⟩ := h2.get hm
  refine ⟨b, o, u, hA, hS, hb, k1, fun j v hj => ?_⟩
  have hjl := (List.getElem?_eq_some_iff.1 hj).1
  rw [L.len k1] at hjl
  have : (i + 1) * L.k ≤ n * L.k := Nat.mul_le_mul_right _ (by omega)
  rw [Nat.add_mul] at this
  rw [Nat.add_assoc, hc (i * L.k + j) (by omega)]
  exact k2 j v hj
/-- A row of the call's own of such values. -/
def OwnE (L : Lay α) (w : World) (S : Nat → Prop) (B : Nat) (e : TypeId) (v : Value) (n : Nat) (xs : List α) : Prop := ∃ vs, w.ownsRow B e L.k v n vs ∧ Els L w S xs vs
theorem OwnE.rd {B : Nat} {e : TypeId} (h : OwnE L w S B e (.slice A n c) n xs) (hS : ∀ i, B ≤ i → i < w.heap.size → S i) : RdE L w S A n c xs := by
  obtain ⟨vs, h1, h2⟩ := h
  exact ⟨vs, (own_row h1).mono (fun i _ hi => hS i (own_lt h1 i hi).1 (own_lt h1 i hi).2), h2⟩
theorem OwnE.fr {F : Nat → Prop} {B : Nat} {e : TypeId} {v : Value} (h : OwnE L w S B e v n xs) (hf : Fr F w w') (hF : ∀ i, S i → ¬ F i) (hv : ∀ g, v.ownBlock = some g → ¬ F g) : OwnE L w' S B e v n xs := by
  obtain ⟨vs, h1, h2⟩ := h
  exact ⟨vs, own_fr h1 hf hv, h2.fr hf hF⟩
theorem OwnE.up {B : Nat} {e : TypeId} {v : Value} (h : OwnE L w S B e v n xs) (hb : Below w.heap.size w w') : OwnE L w' S B e v n xs := h.fr (Fr.of_below (F := fun _ => False) hb) (fun _ _ h => h) (fun _ _ h => h)
end
/-- Bytes. -/
def lBytes : Lay (List UInt8) where
  k := 1
  R w S x vs := ∃ A n c, vs = [.slice A n c] ∧ Rd w S A n c x
  pos := Nat.one_pos
  len := by rintro w S x vs ⟨A, n, c, rfl, -⟩; rfl
  one := by rintro w S x vs ⟨A, n, c, rfl, -⟩ u hu; simp at hu; subst hu; rfl
  fr := by rintro w w' S F x vs ⟨A, n, c, rfl, h⟩ hf hF; exact ⟨A, n, c, rfl, h.fr hf hF⟩
  mono := by rintro w S T x vs ⟨A, n, c, rfl, h⟩ hf; exact ⟨A, n, c, rfl, h.mono hf⟩
/-- Writes. -/
def lWt : Lay Sy.Wt where
  k := 2
  R w S x vs := ∃ A n c, vs = [.string ⟨x.object.toArray⟩, .slice A n c] ∧ Rd w S A n c x.delta
  pos := by omega
  len := by rintro w S x vs ⟨A, n, c, rfl, -⟩; rfl
  one := by
    rintro w S x vs ⟨A, n, c, rfl, -⟩ u hu
    simp at hu
    rcases hu with rfl | rfl <;> rfl
  fr := by rintro w w' S F x vs ⟨A, n, c, rfl, h⟩ hf hF; exact ⟨A, n, c, rfl, h.fr hf hF⟩
  mono := by rintro w S T x vs ⟨A, n, c, rfl, h⟩ hf; exact ⟨A, n, c, rfl, h.mono hf⟩
/-- The cells of a command. -/
def cmv (x : Sy.Cm) (a b : Value) : List Value := [.int .i64 x.client, .int .i64 x.seq, .int .i64 x.kind, a, .int .i64 x.replica, b]
/-- Commands. -/
def lCm : Lay Sy.Cm where
  k := 6
  R w S x vs := ∃ A n c B m d, vs = cmv x (.slice A n c) (.slice B m d) ∧ RdE lWt w S A n c x.writes ∧ Rd w S B m d x.tag
  pos := by omega
  len := by rintro w S x vs ⟨A, n, c, B, m, d, rfl, -, -⟩; rfl
  one := by
    rintro w S x vs ⟨A, n, c, B, m, d, rfl, -, -⟩ u hu
    simp [cmv] at hu
    rcases hu with rfl | rfl | rfl | rfl | rfl | rfl <;> rfl
  fr := by rintro w w' S F x vs ⟨A, n, c, B, m, d, rfl, h, h'⟩ hf hF; exact ⟨A, n, c, B, m, d, rfl, h.fr hf hF, h'.fr hf hF⟩
  mono := by rintro w S T x vs ⟨A, n, c, B, m, d, rfl, h, h'⟩ hf; exact ⟨A, n, c, B, m, d, rfl, h.mono hf, h'.mono hf⟩
/-- Digests. -/
def lDg : Lay Sy.Dg where
  k := 3
  R w S x vs := ∃ A n c B m d, vs = [.slice A n c, .slice B m d, .int .i64 x.count] ∧ Rd w S A n c x.pre ∧ Rd w S B m d x.sum
  pos := by omega
  len := by rintro w S x vs ⟨A, n, c, B, m, d, rfl, -, -⟩; rfl
  one := by
    rintro w S x vs ⟨A, n, c, B, m, d, rfl, -, -⟩ u hu
    simp at hu
    rcases hu with rfl | rfl | rfl <;> rfl
  fr := by rintro w w' S F x vs ⟨A, n, c, B, m, d, rfl, h, h'⟩ hf hF; exact ⟨A, n, c, B, m, d, rfl, h.fr hf hF, h'.fr hf hF⟩
  mono := by rintro w S T x vs ⟨A, n, c, B, m, d, rfl, h, h'⟩ hf; exact ⟨A, n, c, B, m, d, rfl, h.mono hf, h'.mono hf⟩
end Go.Pl

/-
  Processes and messages of package bracha in memory.
-/
import Derived.Test.YtplijfgjdlghbaaBMap
import Derived.Test.YtplijfgjdlghbaaBP
import Derived.Test.YtplijfgjdlghbaaOwn
import Derived.Test.YtplijfgjdlghbaaPart
namespace Go.Pl
open Go.RowKit
/-- The cells of a message, the payload a slice. -/
def pkv (m : Bra.Pkt) (s : Value) : List Value := [.int .i64 m.kind, .int .i64 m.src, .int .i64 m.to, .int .i64 m.origin, .int .i64 m.number, s]
/-- The cells of a delivery. -/
def dev (d : Bra.Del) (s : Value) : List Value := [.int .i64 d.origin, .int .i64 d.number, s]
/-- A slice that reads as bytes, in blocks of S. -/
def SlIs (w : World) (S : Nat → Prop) (v : Value) (bs : List UInt8) : Prop := ∃ A n c, v = .slice A n c ∧ Rd w S A n c bs
section
variable {w w' : World} {S T : Nat → Prop} {v : Value} {bs : List UInt8}
theorem SlIs.fr {F : Nat → Prop} (h : SlIs w S v bs) (hf : Fr F w w') (hF : ∀ i, S i → ¬ F i) : SlIs w' S v bs := by
  obtain ⟨A, n, c, rfl, r⟩ := h
  exact ⟨A, n, c, rfl, r.fr hf hF⟩
theorem SlIs.mono (h : SlIs w S v bs) (hST : ∀ i, i < w.heap.size → S i → T i) : SlIs w T v bs := by
  obtain ⟨A, n, c, rfl, r⟩ := h
  exact ⟨A, n, c, rfl, r.mono hST⟩
end
/-- vs are the cells of the messages ms, one after the other, the payloads in blocks of S. -/
def PksIs (w : World) (S : Nat → Prop) : List Bra.Pkt → List Value → Prop
  | [], vs => vs = []
  | m :: ms, vs => ∃ s r, vs = pkv m s ++ r ∧ SlIs w S s m.payload ∧ PksIs w S ms r
/-- vs are the cells of the deliveries ds. -/
def DesIs (w : World) (S : Nat → Prop) : List Bra.Del → List Value → Prop
  | [], vs => vs = []
  | d :: ds, vs => ∃ s r, vs = dev d s ++ r ∧ SlIs w S s d.payload ∧ DesIs w S ds r
section
variable {w w' : World} {S T : Nat → Prop}
theorem PksIs.fr {F : Nat → Prop} (hf : Fr F w w') (hF : ∀ i, S i → ¬ F i) : ∀ {ms : List Bra.Pkt} {vs : List Value}, PksIs w S ms vs → PksIs w' S ms vs
  | [], _, h => h
  | _ :: _, _, ⟨s, r, h1, h2, h3⟩ => ⟨s, r, h1, h2.fr hf hF, h3.fr hf hF⟩
theorem PksIs.mono (hST : ∀ i, i < w.heap.size → S i → T i) : ∀ {ms : List Bra.Pkt} {vs : List Value}, PksIs w S ms vs → PksIs w T ms vs
  | [], _, h => h
  | _ :: _, _, ⟨s, r, h1, h2, h3⟩ => ⟨s, r, h1, h2.mono hST, h3.mono hST⟩
theorem PksIs.len : ∀ {ms : List Bra.Pkt} {vs : List Value}, PksIs w S ms vs → vs.length = ms.length * 6
  | [], _, h => by cases h; rfl
  | _ :: _, _, ⟨s, r, h1, h2, h3⟩ => by have := h3.len; rw [h1]; simp [pkv, this]; omega
theorem PksIs.snoc {m : Bra.Pkt} {s : Value} (hs : SlIs w S s m.payload) : ∀ {ms : List Bra.Pkt} {vs : List Value}, PksIs w S ms vs → PksIs w S (ms ++ [m]) (vs ++ pkv m s)
  | [], _, h => by cases h; exact ⟨s, [], by simp, hs, rfl⟩
  | _ :: _, _, ⟨s', r, h1, h2, h3⟩ => ⟨s', r ++ pkv m s, by rw [h1, List.append_assoc], h2, h3.snoc hs⟩
theorem PksIs.append : ∀ {ms : List Bra.Pkt} {vs : List Value} {ms' : List Bra.Pkt} {vs' : List Value}, PksIs w S ms vs → PksIs w S ms' vs' → PksIs w S (ms ++ ms') (vs ++ vs')
  | [], _, _, _, h, h' => by cases h; simpa using h'
  | _ :: _, _, _, _, ⟨s, r, h1, h2, h3⟩, h' => ⟨s, r ++ _, by rw [h1, List.append_assoc], h2, h3.append h'⟩
theorem PksIs.get : ∀ {ms : List Bra.Pkt} {vs : List Value} {i : Nat} {m : Bra.Pkt}, PksIs w S ms vs → ms[i]? = some m → ∃ s, SlIs w S s m.payload ∧ ∀ j v, (pkv m s)[j]? = some v → vs[i * 6 + j]? = some v
  | [], _, _, _, _, hm => by simp at hm
  | m0 :: _, _, 0, _, ⟨s, r, h1, h2, h3⟩, hm => by
    obtain rfl : m0 = _ := by simpa using hm
    refine ⟨s, h2, fun j v hj => ?_⟩
    have hl := (List.getElem?_eq_some_iff.1 hj).1
    rw [h1, Nat.zero_mul, Nat.zero_add, List.getElem?_append_left hl, hj]
  | m0 :: ms, _, i + 1, _, ⟨s, r, h1, h2, h3⟩, hm => by
    obtain ⟨s', k1, k2⟩ := h3.get (i := i) (by simpa using hm)
    refine ⟨s', k1, fun j v hj => ?_⟩
    rw [h1, List.getElem?_append_right (by simp [pkv]; omega), show (i + 1) * 6 + j - (pkv m0 s).length = i * 6 + j by simp [pkv]; omega]
    exact k2 j v hj
theorem PksIs.one (h : ∀ u, u ∈ ([] : List Value) → u.oneCell' = true) : ∀ {ms : List Bra.Pkt} {vs : List Value}, PksIs w S ms vs → ∀ u ∈ vs, u.oneCell' = true
  | [], _, hh => by cases hh; exact h
  | _ :: _, _, ⟨s, r, h1, ⟨A, n, c, hs, _⟩, h3⟩ => by
    intro u hu
    rw [h1] at hu
    rcases List.mem_append.1 hu with hu | hu
    · simp only [pkv, List.mem_cons, List.not_mem_nil, or_false] at hu
      rcases hu with rfl | rfl | rfl | rfl | rfl | rfl
      all_goals first
        | rfl
        | (rw [hs]; rfl)
    · exact h3.one h u hu
theorem DesIs.fr {F : Nat → Prop} (hf : Fr F w w') (hF : ∀ i, S i → ¬ F i) : ∀ {ms : List Bra.Del} {vs : List Value}, DesIs w S ms vs → DesIs w' S ms vs
  | [], _, h => h
  | _ :: _, _, ⟨s, r, h1, h2, h3⟩ => ⟨s, r, h1, h2.fr hf hF, h3.fr hf hF⟩
theorem DesIs.mono (hST : ∀ i, i < w.heap.size → S i → T i) : ∀ {ms : List Bra.Del} {vs : List Value}, DesIs w S ms vs → DesIs w T ms vs
  | [], _, h => h
  | _ :: _, _, ⟨s, r, h1, h2, h3⟩ => ⟨s, r, h1, h2.mono hST, h3.mono hST⟩
theorem DesIs.len : ∀ {ms : List Bra.Del} {vs : List Value}, DesIs w S ms vs → vs.length = ms.length * 3
  | [], _, h => by cases h; rfl
  | _ :: _, _, ⟨s, r, h1, h2, h3⟩ => by have := h3.len; rw [h1]; simp [dev, this]; omega
theorem DesIs.snoc {m : Bra.Del} {s : Value} (hs : SlIs w S s m.payload) : ∀ {ms : List Bra.Del} {vs : List Value}, DesIs w S ms vs → DesIs w S (ms ++ [m]) (vs ++ dev m s)
  | [], _, h => by cases h; exact ⟨s, [], by simp, hs, rfl⟩
  | _ :: _, _, ⟨s', r, h1, h2, h3⟩ => ⟨s', r ++ dev m s, by rw [h1, List.append_assoc], h2, h3.snoc hs⟩
theorem DesIs.get : ∀ {ms : List Bra.Del} {vs : List Value} {i : Nat} {m : Bra.Del}, DesIs w S ms vs → ms[i]? = some m → ∃ s, SlIs w S s m.payload ∧ ∀ j v, (dev m s)[j]? = some v → vs[i * 3 + j]? = some v
  | [], _, _, _, _, hm => by simp at hm
  | m0 :: _, _, 0, _, ⟨s, r, h1, h2, h3⟩, hm => by
    obtain rfl : m0 = _ := by simpa using hm
    refine ⟨s, h2, fun j v hj => ?_⟩
    have hl := (List.getElem?_eq_some_iff.1 hj).1
    rw [h1, Nat.zero_mul, Nat.zero_add, List.getElem?_append_left hl, hj]
  | m0 :: ms, _, i + 1, _, ⟨s, r, h1, h2, h3⟩, hm => by
    obtain ⟨s', k1, k2⟩ := h3.get (i := i) (by simpa using hm)
    refine ⟨s', k1, fun j v hj => ?_⟩
    rw [h1, List.getElem?_append_right (by simp [dev]; omega), show (i + 1) * 3 + j - (dev m0 s).length = i * 3 + j by simp [dev]; omega]
    exact k2 j v hj
end
/-- The slice of address A, length n and capacity c reads as the messages ms; row and payloads in blocks of S. -/
def RdP (w : World) (S : Nat → Prop) (A : Option Addr) (n c : Nat) (ms : List Bra.Pkt) : Prop := ∃ vs, Row w S 6 A n c vs ∧ PksIs w S ms vs
/-- .. as the deliveries ds. -/
def RdE (w : World) (S : Nat → Prop) (A : Option Addr) (n c : Nat) (ds : List Bra.Del) : Prop := ∃ vs, Row w S 3 A n c vs ∧ DesIs w S ds vs
section
variable {w w' : World} {S T : Nat → Prop} {A : Option Addr} {n c : Nat} {ms : List Bra.Pkt} {ds : List Bra.Del}
theorem RdP.len (h : RdP w S A n c ms) : n = ms.length := by
  obtain ⟨vs, h1, h2⟩ := h
  have := h1.len
  have := h2.len
  omega
theorem RdP.le (h : RdP w S A n c ms) : n ≤ c ∧ c ≤ maxLen := by
  obtain ⟨vs, h1, h2⟩ := h
  exact ⟨h1.le, h1.max⟩
theorem RdP.fr {F : Nat → Prop} (h : RdP w S A n c ms) (hf : Fr F w w') (hF : ∀ i, S i → ¬ F i) : RdP w' S A n c ms := by
  obtain ⟨vs, h1, h2⟩ := h
  exact ⟨vs, h1.fr hf hF, h2.fr hf hF⟩
theorem RdP.mono (h : RdP w S A n c ms) (hST : ∀ i, i < w.heap.size → S i → T i) : RdP w T A n c ms := by
  obtain ⟨vs, h1, h2⟩ := h
  exact ⟨vs, h1.mono hST, h2.mono hST⟩
theorem RdP.get (h : RdP w S A n c ms) {i : Nat} {m : Bra.Pkt} (hm : ms[i]? = some m) : ∃ b o s, A = some ⟨b, o, none⟩ ∧ S b ∧ b < w.heap.size ∧ SlIs w S s m.payload ∧ w.rangeAt b (o + i * 6) (pkv m s) := by
  have hn := h.len
  have hi := (List.getElem?_eq_some_iff.1 hm).1
  obtain ⟨vs, h1, h2⟩ := h
  obtain ⟨b, o, hA, hS, hb, hc⟩ := h1.at_ (by omega)
  obtain ⟨s, k1, k2⟩ := h2.get hm
  refine ⟨b, o, s, hA, hS, hb, k1, fun j v hj => ?_⟩
  have hj6 : j < 6 := (List.getElem?_eq_some_iff.1 hj).1
  rw [Nat.add_assoc, hc (i * 6 + j) (by omega)]
  exact k2 j v hj
theorem RdE.len (h : RdE w S A n c ds) : n = ds.length := by
  obtain ⟨vs, h1, h2⟩ := h
  have := h1.len
  have := h2.len
  omega
theorem RdE.le (h : RdE w S A n c ds) : n ≤ c ∧ c ≤ maxLen := by
  obtain ⟨vs, h1, h2⟩ := h
  exact ⟨h1.le, h1.max⟩
theorem RdE.fr {F : Nat → Prop} (h : RdE w S A n c ds) (hf : Fr F w w') (hF : ∀ i, S i → ¬ F i) : RdE w' S A n c ds := by
  obtain ⟨vs, h1, h2⟩ := h
  exact ⟨vs, h1.fr hf hF, h2.fr hf hF⟩
theorem RdE.mono (h : RdE w S A n c ds) (hST : ∀ i, i < w.heap.size → S i → T i) : RdE w T A n c ds := by
  obtain ⟨vs, h1, h2⟩ := h
  exact ⟨vs, h1.mono hST, h2.mono hST⟩
theorem RdE.get (h : RdE w S A n c ds) {i : Nat} {m : Bra.Del} (hm : ds[i]? = some m) : ∃ b o s, A = some ⟨b, o, none⟩ ∧ S b ∧ b < w.heap.size ∧ SlIs w S s m.payload ∧ w.rangeAt b (o + i * 3) (dev m s) := by
  have hn := h.len
  have hi := (List.getElem?_eq_some_iff.1 hm).1
  obtain ⟨vs, h1, h2⟩ := h
  obtain ⟨b, o, hA, hS, hb, hc⟩ := h1.at_ (by omega)
  obtain ⟨s, k1, k2⟩ := h2.get hm
  refine ⟨b, o, s, hA, hS, hb, k1, fun j v hj => ?_⟩
  have hj6 : j < 3 := (List.getElem?_eq_some_iff.1 hj).1
  rw [Nat.add_assoc, hc (i * 3 + j) (by omega)]
  exact k2 j v hj
end
end Go.Pl

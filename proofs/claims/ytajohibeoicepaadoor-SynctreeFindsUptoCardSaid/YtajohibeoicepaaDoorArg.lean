/-
  What came in: a slice of bytes, a slice of slices of bytes.
-/
import Derived.Test.YtajohibeoicepaaDoorHead
import Derived.Deep.Matrix
import Derived.ChangeMaps5
namespace Go.Proofs.YtajohibeoicepaaDoor
open Go.ChangeShapes Go.WideShapes Go.ChangeAt Go.RowKit Go.Pl
section
variable {H : Type} {enc : TypeId × Value → H} {P : Program} {W : World}
theorem isRow_of_trod {t e : TypeId} {k : IntKind} {a : Option Addr} {len cap : Nat} {d : DataW H} {p : List MemPlace} (ht : P.underlying t = some (.slice e)) (he : P.underlying e = some (.int k)) (hc : P.cellsOf e = 1)
    (h : DataW.Trod enc P W 0 (fun _ => true) true t (.slice a len cap) d p) : ∃ zs, IsRow k W a len cap zs := by
  obtain ⟨fuel, hf⟩ := h
  rcases open_ints ht he hc hf with ⟨hcs, _⟩ | ⟨x, l, c, zs, hcs, _, hl, hm, hz, _, hcell, hwz⟩
  · simp [Value.cells] at hcs
    obtain ⟨rfl, rfl, rfl⟩ := hcs
    exact ⟨[], .inl ⟨rfl, rfl, rfl, rfl⟩⟩
  · simp [Value.cells] at hcs
    obtain ⟨rfl, rfl, rfl⟩ := hcs
    exact ⟨zs, .inr ⟨_, rfl, hl, hm, by simpa using hz, hcell, hwz⟩⟩
/-- The slice of address A, length n and capacity c reads as the byte slices xs, in blocks of which S holds. -/
structure RdR (w : World) (S : Nat → Prop) (A : Option Addr) (n c : Nat) (xs : List (List UInt8)) : Prop where
  len : n = xs.length
  le : n ≤ c
  max : c ≤ maxLen
  none : A = none → c = 0
  at_ : 0 < n → ∃ b o, A = some ⟨b, o, Option.none⟩ ∧ S b ∧ b < w.heap.size ∧ ∀ r, r < n → ∃ Ar cr, w.cell? ⟨b, o + r, Option.none⟩ = some (.slice Ar (xs.getD r []).length cr) ∧ Rd w S Ar (xs.getD r []).length cr (xs.getD r [])
theorem RdR.keep {w w' : World} {S : Nat → Prop} {A : Option Addr} {n c : Nat} {xs : List (List UInt8)} (h : RdR w S A n c xs) (hs : w.heap.size ≤ w'.heap.size) (hk : ∀ p : Addr, p.block < w.heap.size → S p.block → w'.cell? p = w.cell? p) : RdR w' S A n c xs := by
  refine ⟨h.len, h.le, h.max, h.none, fun hn => ?_⟩
  obtain ⟨b, o, hA, hS, hb, hc⟩ := h.at_ hn
  refine ⟨b, o, hA, hS, by omega, fun r hr => ?_⟩
  obtain ⟨Ar, cr, h1, h2⟩ := hc r hr
  exact ⟨Ar, cr, (hk ⟨b, o + r, Option.none⟩ hb hS).trans h1, h2.keep hs hk⟩
theorem RdR.mono {w : World} {S T : Nat → Prop} {A : Option Addr} {n c : Nat} {xs : List (List UInt8)} (h : RdR w S A n c xs) (hST : ∀ i, i < w.heap.size → S i → T i) : RdR w T A n c xs := by
  refine ⟨h.len, h.le, h.max, h.none, fun hn => ?_⟩
  obtain ⟨b, o, hA, hS, hb, hc⟩ := h.at_ hn
  refine ⟨b, o, hA, hST b hb hS, hb, fun r hr => ?_⟩
  obtain ⟨Ar, cr, h1, h2⟩ := hc r hr
  exact ⟨Ar, cr, h1, h2.mono hST⟩
theorem rows_of_trod {t e q : TypeId} {a : Option Addr} {len cap : Nat} {d : DataW H} {p : List MemPlace} (ht : P.underlying t = some (.slice e)) (he : P.underlying e = some (.slice q)) (hq : P.underlying q = some (.int .u8)) (ce : P.cellsOf e = 1) (cq : P.cellsOf q = 1)
    (h : DataW.Trod enc P W 0 (fun _ => true) true t (.slice a len cap) d p) : ∃ xs, RdR W (fun _ => True) a len cap xs := by
  obtain ⟨fuel, hf⟩ := h
  rcases Deep.open_int_rows ht he hq ce cq hf with ⟨hcs, _⟩ | ⟨x, l, c, A, L, C, Z, hcs, _, hl, hm, _, hr⟩
  · simp [Value.cells] at hcs
    obtain ⟨rfl, rfl, rfl⟩ := hcs
    exact ⟨[], rfl, by omega, by simp [maxLen], fun _ => rfl, fun h => by omega⟩
  · simp [Value.cells] at hcs
    obtain ⟨rfl, rfl, rfl⟩ := hcs
    have each : ∀ r, r < cap → ∃ bs, L r = bs.length ∧ Rd W (fun _ => True) (A r) (L r) (C r) bs := by
      intro r hrc
      obtain ⟨_, h1, h2, h3, h4, h5, h6⟩ := hr r hrc
      have : IsRow .u8 W (A r) (L r) (C r) (Z r) := by
        cases hA : A r with
        | none =>
          have hC := h5 hA
          exact .inl ⟨rfl, by omega, hC, List.eq_nil_of_length_eq_zero (by omega)⟩
        | some a' =>
          obtain ⟨_, h7⟩ := h6 a' hA
          exact .inr ⟨a', rfl, h1, h2, h3, fun i hi => h7 i (by omega), h4⟩
      obtain ⟨bs, hb⟩ := rd_of_row this
      exact ⟨bs, hb.len, hb⟩
    obtain ⟨y, hy⟩ := Deep.choose_lt each
    have hxs : ∀ r, r < len → (((List.range len).map y).getD r []) = y r := fun r hr => by simp [List.getD_eq_getElem?_getD, hr]
    refine ⟨(List.range len).map y, by simp, hl, hm, (fun e => by cases e), fun hn => ?_⟩
    obtain ⟨b, o, s⟩ := x
    have h0 := (hr 0 (by omega)).1
    have hs : s = none := by
      cases s with
      | none => rfl
      | some s =>
        simp only [Addr.add, World.cell?, if_pos] at h0
        split at h0 <;> simp at h0
    subst hs
    have hb : b < W.heap.size := World.block_lt_of_cell? W _ h0
    refine ⟨b, o, rfl, trivial, by simpa [Addr.add] using hb, fun r hrl => ?_⟩
    obtain ⟨h1, _⟩ := hr r (by omega)
    rw [add_none] at h1
    obtain ⟨h2, h3⟩ := hy r (by omega)
    rw [hxs r hrl, ← h2]
    exact ⟨A r, C r, h1, h3⟩
end
end Go.Proofs.YtajohibeoicepaaDoor

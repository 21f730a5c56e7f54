/-
  Numbers and bytes that came in.
-/
import Derived.Test.YtplijfgjdlghbaaBArg
namespace Go.Pl
open Go.RowKit
def iv (z : Int) : Value := .int .i64 z
theorem iv_one (zs : List Int) : ∀ u ∈ zs.map iv, u.oneCell' = true := by
  intro u hu
  obtain ⟨z, _, rfl⟩ := List.mem_map.1 hu
  rfl
theorem iv_get (zs : List Int) (i : Nat) (h : i < zs.length) : (zs.map iv)[i]? = some (.int .i64 (zs.getD i 0)) := by
  simp [iv, h]
/-- Every number of the list is an int. -/
def I64s (zs : List Int) : Prop := ∀ z ∈ zs, -9223372036854775808 ≤ z ∧ z ≤ 9223372036854775807
theorem I64s.get {zs : List Int} (h : I64s zs) {i : Nat} (hi : i < zs.length) : -9223372036854775808 ≤ zs.getD i 0 ∧ zs.getD i 0 ≤ 9223372036854775807 := by
  have e : zs.getD i 0 = zs[i] := by simp [hi]
  rw [e]
  exact h _ (List.getElem_mem _)
end Go.Pl
namespace Go.Proofs.Ytplijfgjdlghbaa
open Go.ChangeShapes Go.WideShapes Go.ChangeAt Go.RowKit Go.Pl
section
variable {H : Type} {enc : TypeId × Value → H} {P : Program} {W : World}
theorem ints_of_trod {t e : TypeId} {a : Option Addr} {len cap : Nat} {d : DataW H} {p : List MemPlace} (ht : P.underlying t = some (.slice e)) (he : P.underlying e = some (.int .i64)) (hc : P.cellsOf e = 1)
    (h : DataW.Trod enc P W 0 (fun _ => true) true t (.slice a len cap) d p) : ∃ zs, Row W (fun _ => True) 1 a len cap (zs.map iv) ∧ I64s zs ∧ len ≤ 9223372036854775807 := by
  obtain ⟨fuel, hf⟩ := h
  rcases open_ints ht he hc hf with ⟨hcs, _⟩ | ⟨x, l, c, zs, hcs, _, hl, hm, hz, _, hcell, hwz⟩
  · simp [Value.cells] at hcs
    obtain ⟨rfl, rfl, rfl⟩ := hcs
    exact ⟨[], Row.nil _ _ _, (fun z hz => absurd hz (by simp)), by omega⟩
  · simp [Value.cells] at hcs
    obtain ⟨rfl, rfl, rfl⟩ := hcs
    simp only [if_true] at hz
    refine ⟨zs.take len, ⟨by simp; omega, hl, hm, (fun e => by cases e), fun hn => ?_⟩, fun z hz' => bounds_i64 (hwz z (List.mem_of_mem_take hz')), by simp only [maxLen] at hm; omega⟩
    obtain ⟨b, o, s⟩ := x
    have h0 := hcell 0 (by omega)
    have hs : s = none := by
      cases s with
      | none => rfl
      | some s =>
        simp only [Addr.add, World.cell?, if_pos] at h0
        split at h0 <;> simp at h0
    subst hs
    have hb : b < W.heap.size := World.block_lt_of_cell? W _ h0
    refine ⟨b, o, rfl, trivial, by simpa [Addr.add] using hb, fun i hi => ?_⟩
    have hi' := hcell i (by omega)
    rw [add_none] at hi'
    rw [hi']
    have hil : i < zs.length := by omega
    have hi1 : i < len := by omega
    simp [iv, hi1, hil]
end
section
variable {H : Type} {enc : TypeId × Value → H} {P : Program} {W : World}
theorem isRow_of_trod {t e : TypeId} {k : IntKind} {a : Option Addr} {len cap : Nat} {d : DataW H} {p : List MemPlace} (ht : P.underlying t = some (.slice e)) (he : P.underlying e = some (.int k)) (hc : P.cellsOf e = 1)
    (h : DataW.Trod enc P W 0 (fun _ => true) true t (.slice a len cap) d p) : ∃ zs, IsRow k W a len cap zs := by
  obtain ⟨fuel, hf⟩ := h
  rcases open_ints ht he hc hf with ⟨hcs, _⟩ | ⟨x, l, c, zs, hcs, _, hl, hm, hz, _, hcell, hwz⟩
  · simp [Value.cells] at hcs
    obtain ⟨rfl, rfl, rfl⟩ := hcs
    exact ⟨[], .inl ⟨rfl, rfl, rfl, rfl⟩⟩
  · simp [Value.cells] at hcs
    obtain ⟨rfl, rfl, rfl⟩ := hcs
    exact ⟨zs, .inr ⟨_, rfl, hl, hm, by simpa using hz, hcell, hwz⟩⟩
end
end Go.Proofs.Ytplijfgjdlghbaa

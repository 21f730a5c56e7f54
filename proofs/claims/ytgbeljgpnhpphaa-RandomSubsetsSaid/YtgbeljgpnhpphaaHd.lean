/-
  What each law's row needs: numbers and slices of numbers that came in.
-/
import Derived.Test.YtgbeljgpnhpphaaRows
import Derived.Test.YtgbeljgpnhpphaaInts
import Derived.WalkKit
import Derived.ProofKit
import Derived.OpenShut
import Derived.ShutString
import Derived.ChangeOld
import Derived.Below
import Derived.Deep.DeepHandedRow
namespace Go.Proofs.Ytgbeljgpnhpphaa
open Go.ChangeShapes Go.WideShapes Go.ChangeAt Go.RowKit Go.Pl
theorem own : ownKnob Try.prog.godebug = none := by kernel_rfl
theorem laidOut : laidOutB Try.prog = true := by kernel_rfl
theorem u64_bv {n : Int} (h : (Lit.int .u64 n).wf = true) : ∃ x : BitVec 64, n = n64 x := by
  have := bounds_u64 h
  refine ⟨BitVec.ofNat 64 n.toNat, ?_⟩
  unfold n64
  rw [BitVec.toNat_ofNat]
  omega
theorem u8_bv {n : Int} (h : (Lit.int .u8 n).wf = true) : ∃ c : UInt8, n = (c.toNat : Int) := by
  have := bounds_u8 h
  exact ⟨UInt8.ofNat n.toNat, by rw [UInt8.toNat_ofNat']; omega⟩
section
variable {H : Type} {enc : TypeId × Value → H} {P : Program} {W : World}
theorem ints_of_trod {t e : TypeId} {a : Option Addr} {len cap : Nat} {d : DataW H} {p : List MemPlace} (ht : P.underlying t = some (.slice e)) (he : P.underlying e = some (.int .i64)) (hc : P.cellsOf e = 1)
    (h : DataW.Trod enc P W 0 (fun _ => true) true t (.slice a len cap) d p) : ∃ zs, Row W (fun _ => True) 1 a len cap (zs.map iv) ∧ I64s zs ∧ len ≤ 9223372036854775807 := by
  obtain ⟨fuel, hf⟩ := h
  rcases open_ints ht he hc hf with ⟨hcs, _⟩ | ⟨x, l, c, zs, hcs, _, hl, hm, hz, _, hcell, hwz⟩
  · simp [Value.cells] at hcs
    obtain ⟨rfl, rfl, rfl⟩ := hcs
    exact ⟨[], Row.nil _ _ _, (fun z hz => absurd hz (by simp)), by omega⟩
  · simp [Value.cells] at hcs
    obtain ⟨rfl, rfl, rfl⟩ := hcs
    simp only [if_true] at hz
    refine ⟨zs.take len, ⟨by simp; omega, hl, hm, (fun e => by cases e), fun hn => ?_⟩, fun z hz' => bounds_i64 (hwz z (List.mem_of_mem_take hz')), by simp only [maxLen] at hm; omega⟩
    obtain ⟨b, o, s⟩ := x
    have h0 := hcell 0 (by omega)
    have hs : s = none := by
      cases s with
      | none => rfl
      | some s =>
        simp only [Addr.add, World.cell?, if_pos] at h0
        split at h0 <;> simp at h0
    subst hs
    have hb : b < W.heap.size := World.block_lt_of_cell? W _ h0
    refine ⟨b, o, rfl, trivial, by simpa [Addr.add] using hb, fun i hi => ?_⟩
    have hi' := hcell i (by omega)
    rw [add_none] at hi'
    rw [hi']
    have hil : i < zs.length := by omega
    have hi1 : i < len := by omega
    simp [iv, hi1, hil]
end
end Go.Proofs.Ytgbeljgpnhpphaa

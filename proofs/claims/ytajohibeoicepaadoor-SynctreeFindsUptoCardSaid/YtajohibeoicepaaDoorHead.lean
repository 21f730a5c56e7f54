/-
  What each law's card needs: the table of constants as the row lists it, a world for the witness, a slice of bytes that came in.
-/
import Derived.Test.YtajohibeoicepaaDoorCards
import Derived.Test.YtajohibeoicepaaDoorTie
import Derived.Test.YtajohibeoicepaaDoorRef
import Derived.Test.YtajohibeoicepaaDoorSt
import Derived.WalkKit
import Derived.ProofKit
import Derived.OpenShut
import Derived.ShutString
import Derived.ChangeOld
import Derived.Below
import Derived.OpenShut
import Derived.Deep.DeepHandedRow
import Derived.Lib.LaidTab
namespace Go.Proofs.YtajohibeoicepaaDoor
open Go.ChangeShapes Go.WideShapes Go.ChangeAt Go.RowKit Go.Pl
theorem own : ownKnob Tryd.prog.godebug = none := by kernel_rfl
theorem laidOut : laidOutB Tryd.prog = true := by kernel_rfl
theorem gTab : Tryd.prog.globalNamed "plexus/sha256.constants" = some 0 := by kernel_rfl
theorem gTabType : (Tryd.prog.globals[0]?).map (·.type) = some 90 := by kernel_rfl
theorem cellsTab : Tryd.prog.cellsOf 90 = 64 := by kernel_rfl
theorem cellsWord : Tryd.prog.cellsOf 75 = 1 := by kernel_rfl
theorem words_all : ∀ t : Fin 64, ((Sha.K.map fun (n : Nat) => (n : Int)).getD t 0) = n32 (Sha.kw t) := by decide +kernel
theorem kst_of_tab {W : World} (h : Lib.TabIs Tryd.prog W "plexus/sha256.constants" .u32 (Sha.K.map fun (n : Nat) => (n : Int))) : Kst W := by
  intro t ht
  have := h.cell gTab t (by simpa [Sha.K] using ht)
  rw [this, words_all ⟨t, ht⟩]
/-- A world for the witness: the settled one, the constants as they are laid. -/
noncomputable def laidWorld (os : Os) : World :=
  { World.holding Tryd.prog os ⟨#[], #[], []⟩ with heap := (World.holding Tryd.prog os ⟨#[], #[], []⟩).heap.modify 0 fun
      | .cells _ t frozen => .cells kcells t frozen
      | o => o }
/-- What is told of a slice of integers that came in. -/
def IsRow (k : IntKind) (w : World) (a : Option Addr) (len cap : Nat) (zs : List Int) : Prop :=
  (a = none ∧ len = 0 ∧ cap = 0 ∧ zs = []) ∨
  ∃ x, a = some x ∧ len ≤ cap ∧ cap ≤ maxLen ∧ zs.length = cap ∧ (∀ i, i < zs.length → w.cell? (x.add i) = some (.int k (zs.getD i 0))) ∧ ∀ n ∈ zs, (Lit.int k n).wf = true
/-- It reads as bytes. -/
theorem rd_of_row {w : World} {a : Option Addr} {len cap : Nat} {zs : List Int} (h : IsRow .u8 w a len cap zs) : ∃ bs, Rd w (fun _ => True) a len cap bs := by
  rcases h with ⟨rfl, rfl, rfl, rfl⟩ | ⟨x, rfl, hl, hm, hz, hc, hw⟩
  · exact ⟨[], rfl, by omega, by simp [maxLen], fun _ => rfl, fun h => by omega⟩
  · refine ⟨(zs.take len).map fun z => UInt8.ofNat z.toNat, by simp; omega, hl, hm, (fun e => by cases e), fun hn => ?_⟩
    obtain ⟨b, o, s⟩ := x
    have h0 := hc 0 (by omega)
    have hs : s = none := by
      cases s with
      | none => rfl
      | some s =>
        simp only [Addr.add, World.cell?, if_pos] at h0
        split at h0 <;> simp at h0
    subst hs
    have hb : b < w.heap.size := World.block_lt_of_cell? w _ h0
    refine ⟨b, o, rfl, trivial, by simpa [Addr.add] using hb, fun i hi => ?_⟩
    have hi' := hc i (by omega)
    rw [add_none] at hi'
    rw [hi']
    have hmem : zs.getD i 0 ∈ zs := by
      rw [List.getD_eq_getElem?_getD, List.getElem?_eq_getElem (by omega)]
      exact List.getElem_mem _
    have hwf := hw _ hmem
    have hr := bounds_u8 hwf
    have e : ((zs.take len).map fun z => UInt8.ofNat z.toNat).getD i 0 = UInt8.ofNat (zs.getD i 0).toNat := by
      simp [List.getD_eq_getElem?_getD, hi, List.getElem?_eq_getElem (show i < zs.length by omega)]
    rw [e, UInt8.toNat_ofNat']
    congr 2
    omega
end Go.Proofs.YtajohibeoicepaaDoor

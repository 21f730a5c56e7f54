/-
  Words for memory, after the guide's extra pages: a slice that reads as a list, a block that is known whole.
-/
import Derived.WalkKit
import Derived.Deep.Draws
import Derived.Deep.AppendLies
namespace Go.Pl
open Go.RowKit
def Blk (w : World) (g : Nat) (t : TypeId) (cs : Array Value) : Prop := w.heap[g]? = some (.cells cs t (0, 0))
section
variable {w w' : World} {g : Nat} {t : TypeId} {cs : Array Value}
theorem Blk.lt (h : Blk w g t cs) : g < w.heap.size := by
  rcases Nat.lt_or_ge g w.heap.size with hlt | hge
  · exact hlt
  · unfold Blk at h; rw [Array.getElem?_eq_none hge] at h; cases h
theorem Blk.cell (h : Blk w g t cs) (i : Nat) : w.cell? ⟨g, i, none⟩ = cs[i]? := cell_of_row w g i cs t (0, 0) h
theorem Blk.frozen (h : Blk w g t cs) (i : Nat) : w.frozen? ⟨g, i, none⟩ = false := by
  unfold Blk at h
  simp [World.frozen?, h]
theorem Blk.new (w : World) (t : TypeId) (cs : Array Value) : Blk (w.alloc (.cells cs t)) w.heap.size t cs := heap_alloc_new w _
theorem Blk.new' {w : World} {t : TypeId} {cs : Array Value} {n : Nat} (h : n = w.heap.size) : Blk (w.alloc (.cells cs t)) n t cs := by subst h; exact heap_alloc_new w _
theorem Blk.drew (h : Blk w g t cs) : Blk w.drew g t cs := h
theorem Blk.drewN (h : Blk w g t cs) (n : Nat) : Blk (w.drewN n) g t cs := h
theorem Blk.alloc (h : Blk w g t cs) (o : Obj) : Blk (w.alloc o) g t cs := (Below.heap_alloc w o g h.lt).trans h
theorem Blk.set_ (h : Blk w g t cs) (i : Nat) (u : Value) : Blk (w.setCell ⟨g, i, none⟩ u) g t (cs.setIfInBounds i u) := by
  unfold Blk at h ⊢
  simp [World.setCell, Array.getElem?_modify, h]
theorem Blk.far (h : Blk w g t cs) {p : Addr} (hp : g ≠ p.block) (u : Value) : Blk (w.setCell p u) g t cs := (Below.heap_setCell w p u g hp).trans h
theorem Blk.below {B : Nat} (h : Blk w g t cs) (hb : Below B w w') (hg : g < B) : Blk w' g t cs := (hb.block g hg).trans h
theorem Blk.grown {row : Option Nat} (h : Blk w g t cs) (hb : w.grownBy w' row) (hg : some g ≠ row) : Blk w' g t cs := (hb.block g h.lt hg).trans h
theorem Blk.ne_ {g' : Nat} {t' : TypeId} {cs' : Array Value} (h : Blk w g t cs) (h' : Blk w g' t' cs') (hne : t ≠ t') : g ≠ g' := by
  rintro rfl
  unfold Blk at h h'
  rw [h] at h'
  injection h' with h'
  injection h' with _ ht
  exact hne ht
end
/-- Eight stores into one block. -/
def set8 (w : World) (g : Nat) (a0 a1 a2 a3 a4 a5 a6 a7 : Value) : World :=
  (((((((w.setCell ⟨g, 0, none⟩ a0).setCell ⟨g, 1, none⟩ a1).setCell ⟨g, 2, none⟩ a2).setCell ⟨g, 3, none⟩ a3).setCell ⟨g, 4, none⟩ a4).setCell ⟨g, 5, none⟩ a5).setCell ⟨g, 6, none⟩ a6).setCell ⟨g, 7, none⟩ a7
theorem Blk.set8 {w : World} {g : Nat} {t : TypeId} {c0 c1 c2 c3 c4 c5 c6 c7 : Value} (h : Blk w g t #[c0, c1, c2, c3, c4, c5, c6, c7]) (a0 a1 a2 a3 a4 a5 a6 a7 : Value) :
    Blk (set8 w g a0 a1 a2 a3 a4 a5 a6 a7) g t #[a0, a1, a2, a3, a4, a5, a6, a7] := by
  have h1 := (((((((h.set_ 0 a0).set_ 1 a1).set_ 2 a2).set_ 3 a3).set_ 4 a4).set_ 5 a5).set_ 6 a6).set_ 7 a7
  simpa [Pl.set8] using h1
theorem Blk.far8 {w : World} {g b : Nat} {t : TypeId} {cs : Array Value} (h : Blk w b t cs) (hb : b ≠ g) (a0 a1 a2 a3 a4 a5 a6 a7 : Value) : Blk (Pl.set8 w g a0 a1 a2 a3 a4 a5 a6 a7) b t cs :=
  (((((((h.far hb a0).far hb a1).far hb a2).far hb a3).far hb a4).far hb a5).far hb a6).far hb a7
theorem below8 {B g : Nat} {a w : World} (h : Below B a w) (hg : B ≤ g) (a0 a1 a2 a3 a4 a5 a6 a7 : Value) : Below B a (set8 w g a0 a1 a2 a3 a4 a5 a6 a7) :=
  (((((((h.setCell hg a0).setCell hg a1).setCell hg a2).setCell hg a3).setCell hg a4).setCell hg a5).setCell hg a6).setCell hg a7
theorem below_drewN {B : Nat} {a w : World} (h : Below B a w) (n : Nat) : Below B a (w.drewN n) := ⟨h.os, h.tape, h.output, h.size, h.block⟩
theorem add_none (b o i : Nat) : (⟨b, o, none⟩ : Addr).add i = ⟨b, o + i, none⟩ := Addr.add_lit b o i
/-- The slice value v reads as the bytes bs in w, below block B. -/
def Bytes (w : World) (B : Nat) (v : Value) (bs : List UInt8) : Prop :=
  ∃ A c, v = .slice A bs.length c ∧ bs.length ≤ c ∧ c ≤ maxLen ∧ (A = none → c = 0) ∧
    (0 < bs.length → ∃ b o, A = some ⟨b, o, none⟩ ∧ b < B ∧ ∀ i, i < bs.length → w.cell? ⟨b, o + i, none⟩ = some (.int .u8 ((bs.getD i 0).toNat : Int)))
theorem Bytes.keep {w w' : World} {B : Nat} {v : Value} {bs : List UInt8} (h : Bytes w B v bs) (hk : ∀ p : Addr, p.block < B → w'.cell? p = w.cell? p) : Bytes w' B v bs := by
  obtain ⟨A, c, hv, h1, h2, h3, h4⟩ := h
  refine ⟨A, c, hv, h1, h2, h3, fun hn => ?_⟩
  obtain ⟨b, o, hA, hb, hc⟩ := h4 hn
  exact ⟨b, o, hA, hb, fun i hi => (hk _ hb).trans (hc i hi)⟩
theorem Bytes.below {w w' : World} {B : Nat} {v : Value} {bs : List UInt8} (h : Bytes w B v bs) (hb : Below B w w') : Bytes w' B v bs := h.keep fun _ hp => hb.cell hp
theorem Bytes.more {w : World} {B B' : Nat} {v : Value} {bs : List UInt8} (h : Bytes w B v bs) (hB : B ≤ B') : Bytes w B' v bs := by
  obtain ⟨A, c, hv, h1, h2, h3, h4⟩ := h
  refine ⟨A, c, hv, h1, h2, h3, fun hn => ?_⟩
  obtain ⟨b, o, hA, hb, hc⟩ := h4 hn
  exact ⟨b, o, hA, by omega, hc⟩
end Go.Pl

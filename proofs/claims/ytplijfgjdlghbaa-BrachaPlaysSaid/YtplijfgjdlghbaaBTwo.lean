/-
  A process and the reference's, side by side.
-/
import Derived.Test.YtplijfgjdlghbaaBArg
import Derived.Test.YtplijfgjdlghbaaBRefR
import Derived.Test.YtplijfgjdlghbaaBSame
namespace Go.Proofs.Ytplijfgjdlghbaa
open Go.RowKit Go.Pl
/-- A process, and the reference's in the same state; their blocks lie apart. -/
structure Two (w0 w : World) (L : Nat → Lab) (G : Nat) (q : Bra.Proc) (M : Nat → Lab) (H k : Nat) : Prop where
  mine : Mine w0 w L G q
  ref : RefAt w M H q k
  apart : ∀ i, L i ≠ .no → M i = .no
  mlabs : ∀ i, M i ≠ .no → w0.heap.size ≤ i
/-- The process has gone on, the reference's has not. -/
structure Mid (w0 w : World) (L : Nat → Lab) (G : Nat) (q' : Bra.Proc) (M : Nat → Lab) (H : Nat) (q : Bra.Proc) (k : Nat) (A : Option Addr) (n c : Nat) (out : List Bra.Pkt) : Prop where
  mine : Mine w0 w L G q'
  ref : RefAt w M H q k
  apart : ∀ i, L i ≠ .no → M i = .no
  mlabs : ∀ i, M i ≠ .no → w0.heap.size ≤ i
  row : RdP w (fun i => M i = .no) A n c out
section
variable {w0 w w1 w2 : World} {L M L' M' : Nat → Lab} {G H k : Nat} {q q' : Bra.Proc} {A : Option Addr} {n c : Nat} {out : List Bra.Pkt} {m : Bra.Pkt} {e : Ending}
theorem RefAt.labs (h : RefAt w M H q k) : ∀ i, M i ≠ .no → i < w.heap.size := by
  obtain ⟨_, _, _, _, _, _, _, _, h⟩ := h
  exact h.labs
theorem Two.up (h : Two w0 w L G q M H k) (hb : Below w.heap.size w w1) : Two w0 w1 L G q M H k := ⟨h.mine.up hb, h.ref.up hb, h.apart, h.mlabs⟩
theorem Two.few (h : Two w0 w L G q M H k) : q.done.length ≤ k ∧ q.own ≤ k := by
  obtain ⟨_, _, _, _, _, _, _, _, h⟩ := h.ref
  exact ⟨h.few, h.own⟩
theorem Two.recv (h : Two w0 w L G q M H k) (hr : Received w L G q m e w1) : ∃ L' A' n' c', e = .returned (.slice A' n' c') ∧ Mid w0 w1 L' G (Bra.recv q m).1 M H q k A' n' c' (Bra.recv q m).2 := by
  obtain ⟨L', A', n', c', he, -, hm, hrow, hl, hf⟩ := h.mine.recv hr
  have hml := h.ref.labs
  refine ⟨L', A', n', c', he, hm, h.ref.same hf h.apart, fun i hi => ?_, h.mlabs, hrow.mono (fun i _ hx => Classical.byContradiction fun hy => by have := hml i hy; omega)⟩
  rcases Nat.lt_or_ge i w.heap.size with hx | hx
  · exact h.apart i (by rw [← hl i hx]; exact hi)
  · exact Classical.byContradiction fun hy => by have := hml i hy; omega
theorem Two.cast (h : Two w0 w L G q M H k) (hf : Fr (fun i => i = G) w w1) (hp : ProcAt w1 L G q') (hrow : RdP w1 (fun i => w.heap.size ≤ i) A n c out) : Mid w0 w1 L G q' M H q k A n c out := by
  have hml := h.ref.labs
  have hG : L G ≠ .no := by rw [hp.lab]; simp
  exact ⟨⟨hp, h.mine.below.trans (hf.below (fun i e => by rw [e]; exact h.mine.labs _ hG) h.mine.below.size), h.mine.labs⟩, h.ref.same hf (fun i e => by rw [e]; exact h.apart _ hG), h.apart, h.mlabs, hrow.mono (fun i _ hx => Classical.byContradiction fun hy => by have := hml i hy; omega)⟩
theorem Mid.end_ (h : Mid w0 w1 L G q' M H q k A n c out) (hp : RefAt w2 M' H q' (k + 1)) (hl : ∀ i, i < w1.heap.size → M' i = M i) (hf : Fr (fun i => M i ≠ .no) w1 w2) : Two w0 w2 L G q' M' H (k + 1) ∧ RdP w2 (fun _ => True) A n c out := by
  have hL : ∀ i, M i ≠ .no → L i = .no := fun i hi => Classical.byContradiction fun hx => hi (h.apart i hx)
  have hll := h.mine.proc.labs
  refine ⟨⟨⟨h.mine.proc.fr hf hL, h.mine.below.trans (hf.below h.mlabs h.mine.below.size), h.mine.labs⟩, hp, fun i hi => ?_, fun i hi => ?_⟩, (h.row.fr hf (fun i hx hy => hy hx)).mono (fun _ _ _ => trivial)⟩
  · rw [hl i (hll i hi)]; exact h.apart i hi
  · rcases Nat.lt_or_ge i w1.heap.size with hx | hx
    · exact h.mlabs i (by rw [← hl i hx]; exact hi)
    · exact Nat.le_trans h.mine.below.size hx
theorem Mid.below (h : Mid w0 w1 L G q' M H q k A n c out) : Below w0.heap.size w0 w1 := h.mine.below
end
/-- The reference's deliveries, as a list that can be read. -/
theorem RefAt.dels {w : World} {M : Nat → Lab} {H k : Nat} {q : Bra.Proc} (h : RefAt w M H q k) : ∃ DA dn dc, (∃ c0 c1 c2 c3, Blk w H 32 #[c0, c1, c2, c3, .slice DA dn dc]) ∧ RdE w (fun _ => True) DA dn dc q.done := by
  obtain ⟨CA, cn, cc, cv, DA, dn, dc, dv, h⟩ := h
  exact ⟨DA, dn, dc, ⟨_, _, _, _, h.blk⟩, dv, (own_row h.drow).mono (fun _ _ _ => trivial), h.des.mono (fun _ _ _ => trivial)⟩
/-- The reference's process at its start. -/
theorem ref_start {w w1 : World} {n self : Nat} (hn : n ≤ 64) (hw : w.alloc (.cells #[.int .i64 n, .int .i64 self, .int .i64 0, .slice none 0 0, .slice none 0 0] 32) = w1) :
    RefAt w1 (fun i => if i = w.heap.size then .proc else .no) w.heap.size (Bra.start n self) 0 := by
  have hB : Blk w1 w.heap.size 32 #[.int .i64 n, .int .i64 self, .int .i64 0, .slice none 0 0, .slice none 0 0] := by rw [← hw]; exact Blk.new' rfl
  have hlt := hB.lt
  refine ⟨none, 0, 0, [], none, 0, 0, [], hn, by omega, Nat.le_refl _, Nat.le_refl _, Nat.le_refl _, fun c hc => (by cases hc), fun i hi => ?_, by simp, hB, ⟨rfl, .inl ⟨rfl, rfl⟩⟩, fun g e => (by cases e), rfl, ⟨rfl, .inl ⟨rfl, rfl⟩⟩, fun g e => (by cases e), rfl⟩
  by_cases hx : i = w.heap.size
  · rw [hx]; exact hlt
  · simp [hx] at hi
end Go.Proofs.Ytplijfgjdlghbaa

/-
  A list of a module's operations that came in: structs of three numbers and two byte strings.
-/
import Derived.Test.YtlofgcglnpjceaaDoorArgI
import Derived.Test.YtlofgcglnpjceaaDoorShort
import Derived.Deep.SlicePairs
namespace Keyed
/-- An operation of a module. -/
structure Opn where
  kind : Int
  n : Int
  p : Int
  b : List UInt8
  t : List UInt8
end Keyed
namespace Go.Proofs.YtlofgcglnpjceaaDoor
open Go.ChangeShapes Go.WideShapes Go.ChangeAt Go.RowKit Go.Pl
/-- One operation's cells at an address. -/
def OpAt (w : World) (S : Nat → Prop) (b k : Nat) (x : Keyed.Opn) : Prop :=
  ∃ A3 n3 c3 A4 n4 c4, w.cell? ⟨b, k, none⟩ = some (.int .i64 x.kind) ∧ w.cell? ⟨b, k + 1, none⟩ = some (.int .i64 x.n) ∧ w.cell? ⟨b, k + 2, none⟩ = some (.int .i64 x.p) ∧
    w.cell? ⟨b, k + 3, none⟩ = some (.slice A3 n3 c3) ∧ w.cell? ⟨b, k + 4, none⟩ = some (.slice A4 n4 c4) ∧ Rd w S A3 n3 c3 x.b ∧ Rd w S A4 n4 c4 x.t ∧ I64 x.kind ∧ I64 x.n ∧ I64 x.p
/-- The slice of address A, length n and capacity c reads as operations. -/
structure RdO (w : World) (S : Nat → Prop) (A : Option Addr) (n c : Nat) : Prop where
  max : n ≤ maxLen
  at_ : 0 < n → ∃ b o, A = some ⟨b, o, none⟩ ∧ S b ∧ b < w.heap.size ∧ ∀ r, r < n → ∃ x, OpAt w S b (o + r * 5) x
theorem OpAt.keep {w w' : World} {S : Nat → Prop} {b k : Nat} {x : Keyed.Opn} (h : OpAt w S b k x) (hS : S b) (hb : b < w.heap.size) (hs : w.heap.size ≤ w'.heap.size) (hk : ∀ p : Addr, p.block < w.heap.size → S p.block → w'.cell? p = w.cell? p) : OpAt w' S b k x := by
  obtain ⟨A3, n3, c3, A4, n4, c4, h0, h1, h2, h3, h4, r3, r4, hi⟩ := h
  exact ⟨A3, n3, c3, A4, n4, c4, (hk _ hb hS).trans h0, (hk _ hb hS).trans h1, (hk _ hb hS).trans h2, (hk _ hb hS).trans h3, (hk _ hb hS).trans h4, r3.keep hs hk, r4.keep hs hk, hi⟩
theorem OpAt.mono {w : World} {S T : Nat → Prop} {b k : Nat} {x : Keyed.Opn} (h : OpAt w S b k x) (hST : ∀ i, i < w.heap.size → S i → T i) : OpAt w T b k x := by
  obtain ⟨A3, n3, c3, A4, n4, c4, h0, h1, h2, h3, h4, r3, r4, hi⟩ := h
  exact ⟨A3, n3, c3, A4, n4, c4, h0, h1, h2, h3, h4, r3.mono hST, r4.mono hST, hi⟩
theorem RdO.keep {w w' : World} {S : Nat → Prop} {A : Option Addr} {n c : Nat} (h : RdO w S A n c) (hs : w.heap.size ≤ w'.heap.size) (hk : ∀ p : Addr, p.block < w.heap.size → S p.block → w'.cell? p = w.cell? p) : RdO w' S A n c := by
  refine ⟨h.max, fun hn => ?_⟩
  obtain ⟨b, o, hA, hS, hb, hc⟩ := h.at_ hn
  refine ⟨b, o, hA, hS, by omega, fun r hr => ?_⟩
  obtain ⟨x, hx⟩ := hc r hr
  exact ⟨x, hx.keep hS hb hs hk⟩
theorem RdO.mono {w : World} {S T : Nat → Prop} {A : Option Addr} {n c : Nat} (h : RdO w S A n c) (hST : ∀ i, i < w.heap.size → S i → T i) : RdO w T A n c := by
  refine ⟨h.max, fun hn => ?_⟩
  obtain ⟨b, o, hA, hS, hb, hc⟩ := h.at_ hn
  refine ⟨b, o, hA, hST b hb hS, hb, fun r hr => ?_⟩
  obtain ⟨x, hx⟩ := hc r hr
  exact ⟨x, hx.mono hST⟩
section
variable {H : Type} {enc : TypeId × Value → H} {P : Program} {W : World}
theorem rd_of_cell {t e : TypeId} {v : Value} {d : DataW H × List MemPlace} {fuel : Nat} (ht : P.underlying t = some (.slice e)) (he : P.underlying e = some (.int .u8)) (hc : P.cellsOf e = 1)
    (h : DataW.trod enc P W 0 (fun _ => true) true fuel t [v] = some d) : ∃ A n c bs, v = .slice A n c ∧ Rd W (fun _ => True) A n c bs := by
  rcases open_ints ht he hc h with ⟨hcs, _⟩ | ⟨x, l, c, zs, hcs, _, hl, hm, hz, _, hcell, hwz⟩
  · simp at hcs
    subst hcs
    exact ⟨none, 0, 0, [], rfl, rfl, Nat.le_refl _, by simp [maxLen], fun _ => rfl, fun h => by omega⟩
  · simp at hcs
    subst hcs
    obtain ⟨bs, hb⟩ := rd_of_row (show IsRow .u8 W (some x) l c zs from .inr ⟨_, rfl, hl, hm, by simpa using hz, hcell, hwz⟩)
    exact ⟨_, _, _, _, rfl, hb⟩
theorem ops_of_trod {t e q ti : TypeId} {fs : Array Field} {f0 f1 f2 f3 f4 : Field} {a : Option Addr} {len cap : Nat} {d : DataW H} {p : List MemPlace} (ht : P.underlying t = some (.slice e)) (he : P.underlying e = some (.struct fs)) (ce : P.cellsOf e = 5)
    (g0 : fs[0]? = some f0) (g1 : fs[1]? = some f1) (g2 : fs[2]? = some f2) (g3 : fs[3]? = some f3) (g4 : fs[4]? = some f4) (hsz : fs.size = 5)
    (o0 : f0.offset = 0) (o1 : f1.offset = 1) (o2 : f2.offset = 2) (o3 : f3.offset = 3) (o4 : f4.offset = 4)
    (t0 : f0.type = ti) (t1 : f1.type = ti) (t2 : f2.type = ti) (t3 : f3.type = q) (t4 : f4.type = q)
    (hi : P.underlying ti = some (.int .i64)) (ci : P.cellsOf ti = 1) (cq : P.cellsOf q = 1) {u : TypeId} (hq : P.underlying q = some (.slice u)) (hu : P.underlying u = some (.int .u8)) (cu : P.cellsOf u = 1)
    (h : DataW.Trod enc P W 0 (fun _ => true) true t (.slice a len cap) d p) : RdO W (fun _ => True) a len cap := by
  obtain ⟨fuel, hf⟩ := h
  rcases Deep.open_slice ht hf with ⟨hcs, _⟩ | ⟨x, l, c, m, n, D, Pl, hcs, hb, hl, hm, hmm, _, hx⟩
  · simp [Value.cells] at hcs
    obtain ⟨rfl, rfl, rfl⟩ := hcs
    exact ⟨by simp [maxLen], fun h => by omega⟩
  · simp [Value.cells] at hcs
    obtain ⟨rfl, rfl, rfl⟩ := hcs
    have hmc : m = cap := by simpa using hmm
    subst hmc
    obtain ⟨b, o, s⟩ := x
    have each : ∀ r, r < len → ∃ v0 v1 v2 v3 v4 : Value, (∀ j v, [v0, v1, v2, v3, v4][j]? = some v → W.cell? (((⟨b, o, s⟩ : Addr).add (r * 5)).add j) = some v) ∧
        ∃ n, (∃ y, DataW.trod enc P W 0 (fun _ => true) true n ti [v0] = some y) ∧ (∃ y, DataW.trod enc P W 0 (fun _ => true) true n ti [v1] = some y) ∧ (∃ y, DataW.trod enc P W 0 (fun _ => true) true n ti [v2] = some y) ∧
          (∃ y, DataW.trod enc P W 0 (fun _ => true) true n q [v3] = some y) ∧ (∃ y, DataW.trod enc P W 0 (fun _ => true) true n q [v4] = some y) := by
      intro r hr
      obtain ⟨cs', h1, h2⟩ := hx r (by omega)
      rw [ce] at h1
      obtain ⟨_, hlen, hcell⟩ := World.cells?_some h1
      obtain ⟨xs, k, hk, hxy, _, hxl, hfd⟩ := DataW.trod_struct he h2
      rw [hsz] at hxl
      match xs, hxl, cs', hlen with
      | [y0, y1, y2, y3, y4], _, [v0, v1, v2, v3, v4], _ =>
        have q0 := hfd 0 f0 g0
        have q1 := hfd 1 f1 g1
        have q2 := hfd 2 f2 g2
        have q3 := hfd 3 f3 g3
        have q4 := hfd 4 f4 g4
        simp [o0, o1, o2, o3, o4, t0, t1, t2, t3, t4, ci, cq] at q0 q1 q2 q3 q4
        refine ⟨v0, v1, v2, v3, v4, fun j v hj => ?_, k, ⟨_, q0⟩, ⟨_, q1⟩, ⟨_, q2⟩, ⟨_, q3⟩, ⟨_, q4⟩⟩
        have hj5 : j < 5 := by
          have := (List.getElem?_eq_some_iff.1 hj).1
          simpa using this
        exact (hcell j hj5).trans hj
    refine ⟨by omega, fun hn => ?_⟩
    obtain ⟨w0, _, _, _, _, hw, _⟩ := each 0 hn
    have h0 := hw 0 w0 rfl
    have hs : s = none := by
      cases s with
      | none => rfl
      | some s =>
        simp only [Addr.add, World.cell?, if_pos] at h0
        split at h0 <;> simp at h0
    subst hs
    have hbl : b < W.heap.size := by
      have := World.block_lt_of_cell? W _ h0
      simpa [Addr.add] using this
    refine ⟨b, o, rfl, trivial, hbl, fun r hr => ?_⟩
    obtain ⟨v0, v1, v2, v3, v4, hv, k, ⟨y0, z0⟩, ⟨y1, z1⟩, ⟨y2, z2⟩, ⟨y3, z3⟩, ⟨y4, z4⟩⟩ := each r hr
    obtain ⟨i0, e0, _, b0⟩ := DataW.trod_int hi z0
    obtain ⟨i1, e1, _, b1⟩ := DataW.trod_int hi z1
    obtain ⟨i2, e2, _, b2⟩ := DataW.trod_int hi z2
    obtain ⟨A3, n3, c3, B3, e3, r3⟩ := rd_of_cell hq hu cu z3
    obtain ⟨A4, n4, c4, B4, e4, r4⟩ := rd_of_cell hq hu cu z4
    simp at e0 e1 e2
    subst e0 e1 e2 e3 e4
    have cell : ∀ j v, [Value.int .i64 i0, .int .i64 i1, .int .i64 i2, .slice A3 n3 c3, .slice A4 n4 c4][j]? = some v → W.cell? ⟨b, o + r * 5 + j, none⟩ = some v := by
      intro j v hj
      have := hv j v hj
      rwa [add_none, add_none] at this
    exact ⟨⟨i0, i1, i2, B3, B4⟩, A3, n3, c3, A4, n4, c4, cell 0 _ rfl, cell 1 _ rfl, cell 2 _ rfl, cell 3 _ rfl, cell 4 _ rfl, r3, r4, bounds_i64 b0, bounds_i64 b1, bounds_i64 b2⟩
end
end Go.Proofs.YtlofgcglnpjceaaDoor

/-
  Acts and liars that came in.
-/
import Derived.Test.YtplijfgjdlghbaaBArg
import Derived.Test.YtplijfgjdlghbaaBInts
import Derived.Test.YtplijfgjdlghbaaBG
import Derived.Deep.Grids
namespace Go.Pl
open Go.RowKit
def bv (b : Bool) : Value := .bool b
/-- The cells of an act. -/
def acv (x : Bra.Act) (s : Value) : List Value := .int .i64 x.kind :: .int .i64 x.pick :: pkv x.p s
/-- The slice reads as the acts xs, in blocks of S. -/
def RdA (w : World) (S : Nat → Prop) (A : Option Addr) (n c : Nat) (xs : List Bra.Act) : Prop :=
  xs.length = n ∧ n ≤ c ∧ c ≤ maxLen ∧ ∀ (i : Nat) x, xs[i]? = some x → ∃ b o s, A = some ⟨b, o, none⟩ ∧ S b ∧ b < w.heap.size ∧ SlIs w S s x.p.payload ∧ w.rangeAt b (o + i * 8) (acv x s)
theorem RdA.nil (w : World) (S : Nat → Prop) : RdA w S none 0 0 [] := ⟨rfl, Nat.le_refl _, by simp [maxLen], fun i x h => by simp at h⟩
theorem RdA.mono {w : World} {S T : Nat → Prop} {A : Option Addr} {n c : Nat} {xs : List Bra.Act} (h : RdA w S A n c xs) (hST : ∀ i, i < w.heap.size → S i → T i) : RdA w T A n c xs :=
  ⟨h.1, h.2.1, h.2.2.1, fun i x hx => by
    obtain ⟨b, o, s, h1, h2, h3, h4, h5⟩ := h.2.2.2 i x hx
    exact ⟨b, o, s, h1, hST b h3 h2, h3, h4.mono hST, h5⟩⟩
theorem RdA.fr {w w' : World} {F S : Nat → Prop} {A : Option Addr} {n c : Nat} {xs : List Bra.Act} (h : RdA w S A n c xs) (hf : Fr F w w') (hF : ∀ i, S i → ¬ F i) : RdA w' S A n c xs :=
  ⟨h.1, h.2.1, h.2.2.1, fun i x hx => by
    obtain ⟨b, o, s, h1, h2, h3, h4, h5⟩ := h.2.2.2 i x hx
    exact ⟨b, o, s, h1, h2, Nat.lt_of_lt_of_le h3 hf.size, h4.fr hf hF, fun j v hj => (hf.cell (p := ⟨b, _, none⟩) h3 (hF b h2)).trans (h5 j v hj)⟩⟩
end Go.Pl
namespace Go.Proofs.Ytplijfgjdlghbaa
open Go.ChangeShapes Go.WideShapes Go.ChangeAt Go.RowKit Go.Pl
section
variable {H : Type} {enc : TypeId × Value → H} {P : Program} {W : World}
theorem bools_of_trod {t e : TypeId} {a : Option Addr} {len cap : Nat} {d : DataW H} {p : List MemPlace} (ht : P.underlying t = some (.slice e)) (he : P.underlying e = some .bool) (hc : P.cellsOf e = 1)
    (h : DataW.Trod enc P W 0 (fun _ => true) true t (.slice a len cap) d p) : ∃ bs : List Bool, Row W (fun _ => True) 1 a len cap (bs.map bv) := by
  obtain ⟨fuel, hf⟩ := h
  rcases Deep.open_bools ht he hc hf with ⟨hcs, _⟩ | ⟨x, l, c, B, hcs, _, hl, hm, _, hcell⟩
  · simp [Value.cells] at hcs
    obtain ⟨rfl, rfl, rfl⟩ := hcs
    exact ⟨[], Row.nil _ _ _⟩
  · simp [Value.cells] at hcs
    obtain ⟨rfl, rfl, rfl⟩ := hcs
    refine ⟨(List.range len).map B, ⟨by simp, hl, hm, (fun e => by cases e), fun hn => ?_⟩⟩
    obtain ⟨b, o, s⟩ := x
    have h0 := hcell 0 (by omega)
    have hs : s = none := by
      cases s with
      | none => rfl
      | some s =>
        simp only [Addr.add, World.cell?, if_pos] at h0
        split at h0 <;> simp at h0
    subst hs
    have hb : b < W.heap.size := World.block_lt_of_cell? W _ h0
    refine ⟨b, o, rfl, trivial, by simpa [Addr.add] using hb, fun i hi => ?_⟩
    have hi' := hcell i (by omega)
    rw [add_none] at hi'
    rw [hi']
    have hi1 : i < len := by omega
    simp [bv, hi1]
def ActOk (x : Bra.Act) : Prop := I64 x.kind ∧ I64 x.pick ∧ PktOk x.p
theorem acts_of_trod {t a8 e q ti u : TypeId} {as8 fs : Array Field} {b0 b1 b2 f0 f1 f2 f3 f4 f5 : Field} {a : Option Addr} {len cap : Nat} {d : DataW H} {p : List MemPlace} (ht : P.underlying t = some (.slice a8)) (ha : P.underlying a8 = some (.struct as8)) (ca : P.cellsOf a8 = 8)
    (j0 : as8[0]? = some b0) (j1 : as8[1]? = some b1) (j2 : as8[2]? = some b2) (asz : as8.size = 3) (p0 : b0.offset = 0) (p1 : b1.offset = 1) (p2 : b2.offset = 2) (y0 : b0.type = ti) (y1 : b1.type = ti) (y2 : b2.type = e)
    (he : P.underlying e = some (.struct fs)) (ce : P.cellsOf e = 6)
    (g0 : fs[0]? = some f0) (g1 : fs[1]? = some f1) (g2 : fs[2]? = some f2) (g3 : fs[3]? = some f3) (g4 : fs[4]? = some f4) (g5 : fs[5]? = some f5) (hsz : fs.size = 6)
    (o0 : f0.offset = 0) (o1 : f1.offset = 1) (o2 : f2.offset = 2) (o3 : f3.offset = 3) (o4 : f4.offset = 4) (o5 : f5.offset = 5)
    (t0 : f0.type = ti) (t1 : f1.type = ti) (t2 : f2.type = ti) (t3 : f3.type = ti) (t4 : f4.type = ti) (t5 : f5.type = q)
    (hi : P.underlying ti = some (.int .i64)) (ci : P.cellsOf ti = 1) (cq : P.cellsOf q = 1) (hq : P.underlying q = some (.slice u)) (hu : P.underlying u = some (.int .u8)) (cu : P.cellsOf u = 1) (bu : P.bytesOf u = 1)
    (h : DataW.Trod enc P W 0 (fun _ => true) true t (.slice a len cap) d p) (hw : ∀ k ∈ d.weights P t, k ≤ reachBytes) : ∃ xs, RdA W (fun _ => True) a len cap xs ∧ ∀ x ∈ xs, ActOk x := by
  obtain ⟨fuel, hf⟩ := h
  rcases Deep.open_slice ht hf with ⟨hcs, _⟩ | ⟨x, l, c, m, n, D, Pl, hcs, hb, hl, hm, hmm, hd, hx⟩
  · simp [Value.cells] at hcs
    obtain ⟨rfl, rfl, rfl⟩ := hcs
    exact ⟨[], RdA.nil _ _, by simp⟩
  · simp [Value.cells] at hcs
    obtain ⟨rfl, rfl, rfl⟩ := hcs
    have hmc : m = cap := by simpa using hmm
    subst hmc
    obtain ⟨b, o, s⟩ := x
    have each : ∀ r, r < len → ∃ v0 v1 v2 v3 v4 v5 v6 v7 : Value, (∀ (j : Nat) (v : Value), [v0, v1, v2, v3, v4, v5, v6, v7][j]? = some v → W.cell? (((⟨b, o, s⟩ : Addr).add (r * 8)).add j) = some v) ∧ DataW.trod enc P W 0 (fun _ => true) true n a8 [v0, v1, v2, v3, v4, v5, v6, v7] = some (D r, Pl r) := by
      intro r hr
      obtain ⟨cs', h1, h2⟩ := hx r (by omega)
      rw [ca] at h1
      obtain ⟨_, hlen, hcell⟩ := World.cells?_some h1
      match cs', hlen with
      | [v0, v1, v2, v3, v4, v5, v6, v7], _ =>
        refine ⟨v0, v1, v2, v3, v4, v5, v6, v7, fun j v hj => ?_, h2⟩
        have hj6 : j < 8 := by
          have := (List.getElem?_eq_some_iff.1 hj).1
          simpa using this
        exact (hcell j hj6).trans hj
    by_cases hn : 0 < len
    · obtain ⟨w0, _, _, _, _, _, _, _, hc0, _⟩ := each 0 hn
      have h0 := hc0 0 w0 rfl
      have hs : s = none := by
        cases s with
        | none => rfl
        | some s =>
          simp only [Addr.add, World.cell?, if_pos] at h0
          split at h0 <;> simp at h0
      subst hs
      have hbl : b < W.heap.size := by
        have := World.block_lt_of_cell? W _ h0
        simpa [Addr.add] using this
      have one : ∀ r, r < len → ∃ x s, W.rangeAt b (o + r * 8) (acv x s) ∧ SlIs W (fun _ => True) s x.p.payload ∧ ActOk x := fun r hr => by
        obtain ⟨v0, v1, v2, v3, v4, v5, v6, v7, hv, htr⟩ := each r hr
        obtain ⟨xs, n', hn', hxy, _, hxl, hfd⟩ := DataW.trod_struct ha htr
        rw [asz] at hxl
        match xs, hxl with
        | [z0, z1, z2], _ =>
          have q0 := hfd 0 b0 j0
          have q1 := hfd 1 b1 j1
          have q2 := hfd 2 b2 j2
          simp [p0, p1, p2, y0, y1, y2, ci, ce] at q0 q1 q2
          obtain ⟨i0, e0, _, k0⟩ := DataW.trod_int hi q0
          obtain ⟨i1, e1, _, k1⟩ := DataW.trod_int hi q1
          simp at e0 e1
          subst e0 e1
          have hty : (as8.toList.map (·.type))[2]? = some e := by
            rw [List.getElem?_map, Array.getElem?_toList, j2, ← y2]; rfl
          obtain ⟨mp, sp, m1, m2, m3⟩ := pkt_of_cells (b := b) (k := o + r * 8 + 2) he g0 g1 g2 g3 g4 g5 hsz o0 o1 o2 o3 o4 o5 t0 t1 t2 t3 t4 t5 hi ci cq hq hu cu bu (fun j v hj => by
              have := hv (j + 2) v (by simpa using hj)
              rw [add_none, add_none] at this
              rw [show o + r * 8 + 2 + j = o + r * 8 + (j + 2) by omega]
              exact this) q2 (fun k hk => hw k (by
              have hdd : d = .slice ((List.range len).map D) ((List.range (m - len)).map fun j => D (len + j)) := congrArg Prod.fst hd
              rw [hdd]
              simp only [DataW.weights, ht, List.mem_cons, List.mem_append]
              refine .inr (.inl (weightsAll_in (List.mem_map.2 ⟨r, List.mem_range.2 hr, rfl⟩) k ?_))
              have : D r = _ := congrArg Prod.fst hxy
              rw [this]
              simp only [DataW.weights, ha]
              exact DataW.weights_mem_each (j := 2) hty rfl k hk))
          refine ⟨⟨i0, i1, mp⟩, sp, fun j v hj => ?_, m2, bounds_i64 k0, bounds_i64 k1, m3⟩
          match j, hj with
          | 0, hj =>
            have := hv 0 _ rfl
            rw [add_none, add_none] at this
            rw [← (Option.some.inj hj)]; exact this
          | 1, hj =>
            have := hv 1 _ rfl
            rw [add_none, add_none] at this
            rw [← (Option.some.inj hj)]; exact this
          | j + 2, hj =>
            have hj' : (pkv mp sp)[j]? = some v := by simpa [acv] using hj
            have := m1 j v hj'
            rw [show o + r * 8 + (j + 2) = o + r * 8 + 2 + j by omega]
            exact this
      have ch : ∃ X : Nat → Bra.Act, ∀ r, r < len → ∃ s, W.rangeAt b (o + r * 8) (acv (X r) s) ∧ SlIs W (fun _ => True) s (X r).p.payload ∧ ActOk (X r) :=
        ⟨fun r => if h : r < len then Classical.choose (one r h) else ⟨0, 0, ⟨0, 0, 0, 0, 0, []⟩⟩, fun r hr => by
          dsimp only
          simp only [dif_pos hr]
          exact Classical.choose_spec (one r hr)⟩
      obtain ⟨X, hX⟩ := ch
      refine ⟨(List.range len).map X, ⟨by simp, hl, hm, fun i x hx => ?_⟩, fun x hx => ?_⟩
      · have hil : i < len := by have := (List.getElem?_eq_some_iff.1 hx).1; simpa using this
        have hxe : x = X i := by simp [hil] at hx; exact hx.symm
        subst hxe
        obtain ⟨s, k1, k2, k3⟩ := hX i hil
        exact ⟨b, o, s, rfl, trivial, hbl, k2, k1⟩
      · obtain ⟨r, hr, rfl⟩ := List.mem_map.1 hx
        obtain ⟨s, k1, k2, k3⟩ := hX r (List.mem_range.1 hr)
        exact k3
    · obtain rfl : len = 0 := by omega
      exact ⟨[], ⟨rfl, hl, hm, fun i x h => by simp at h⟩, by simp⟩
end
end Go.Proofs.Ytplijfgjdlghbaa

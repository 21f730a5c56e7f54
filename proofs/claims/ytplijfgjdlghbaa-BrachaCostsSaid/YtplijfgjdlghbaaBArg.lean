/-
  Messages that came in.
-/
import Derived.Test.YtplijfgjdlghbaaBHd
import Derived.Test.YtplijfgjdlghbaaBLaw1
import Derived.Test.YtplijfgjdlghbaaBDone
import Derived.ChangeSlices
import Derived.Deep.Slices
namespace Go.Proofs.Ytplijfgjdlghbaa
open Go.ChangeShapes Go.WideShapes Go.ChangeAt Go.RowKit Go.Pl
def IsRow (k : IntKind) (w : World) (a : Option Addr) (len cap : Nat) (zs : List Int) : Prop :=
  (a = none ∧ len = 0 ∧ cap = 0 ∧ zs = []) ∨
  ∃ x, a = some x ∧ len ≤ cap ∧ cap ≤ maxLen ∧ zs.length = cap ∧ (∀ i, i < zs.length → w.cell? (x.add i) = some (.int k (zs.getD i 0))) ∧ ∀ n ∈ zs, (Lit.int k n).wf = true
/-- It reads as bytes. -/
theorem rd_of_row {w : World} {a : Option Addr} {len cap : Nat} {zs : List Int} (h : IsRow .u8 w a len cap zs) : ∃ bs, Rd w (fun _ => True) a len cap bs := by
  rcases h with ⟨rfl, rfl, rfl, rfl⟩ | ⟨x, rfl, hl, hm, hz, hc, hw⟩
  · exact ⟨[], rfl, by omega, by simp [maxLen], fun _ => rfl, fun h => by omega⟩
  · refine ⟨(zs.take len).map fun z => UInt8.ofNat z.toNat, by simp; omega, hl, hm, (fun e => by cases e), fun hn => ?_⟩
    obtain ⟨b, o, s⟩ := x
    have h0 := hc 0 (by omega)
    have hs : s = none := by
      cases s with
      | none => rfl
      | some s =>
        simp only [Addr.add, World.cell?, if_pos] at h0
        split at h0 <;> simp at h0
    subst hs
    have hb : b < w.heap.size := World.block_lt_of_cell? w _ h0
    refine ⟨b, o, rfl, trivial, by simpa [Addr.add] using hb, fun i hi => ?_⟩
    have hi' := hc i (by omega)
    rw [add_none] at hi'
    rw [hi']
    have hmem : zs.getD i 0 ∈ zs := by
      rw [List.getD_eq_getElem?_getD, List.getElem?_eq_getElem (by omega)]
      exact List.getElem_mem _
    have hwf := hw _ hmem
    have hr := bounds_u8 hwf
    have e : ((zs.take len).map fun z => UInt8.ofNat z.toNat).getD i 0 = UInt8.ofNat (zs.getD i 0).toNat := by
      simp [List.getD_eq_getElem?_getD, hi, List.getElem?_eq_getElem (show i < zs.length by omega)]
    rw [e, UInt8.toNat_ofNat']
    congr 2
    omega
theorem weightsAll_in {H : Type} {P : Program} {e : TypeId} : ∀ {l : List (DataW H)} {d : DataW H}, d ∈ l → ∀ n ∈ d.weights P e, n ∈ DataW.weightsAll P e l
  | d' :: r, d, hd, n, hn => by
    simp only [DataW.weightsAll, List.mem_append]
    rcases List.mem_cons.1 hd with rfl | h
    · exact Or.inl hn
    · exact Or.inr (weightsAll_in h n hn)
section
variable {H : Type} {enc : TypeId × Value → H} {P : Program} {W : World}
theorem sl_of_cell {t e : TypeId} {v : Value} {d : DataW H × List MemPlace} {fuel : Nat} (ht : P.underlying t = some (.slice e)) (he : P.underlying e = some (.int .u8)) (hc : P.cellsOf e = 1) (hby : P.bytesOf e = 1)
    (h : DataW.trod enc P W 0 (fun _ => true) true fuel t [v] = some d) (hw : ∀ k ∈ d.1.weights P t, k ≤ reachBytes) : ∃ bs, SlIs W (fun _ => True) v bs ∧ Fits bs := by
  rcases open_ints ht he hc h with ⟨hcs, _⟩ | ⟨x, l, c, zs, hcs, _, hl, hm, hz, hd, hcell, hwz⟩
  · simp at hcs
    subst hcs
    exact ⟨[], ⟨none, 0, 0, rfl, rfl, Nat.le_refl _, by simp [maxLen], fun _ => rfl, fun h => by omega⟩, by unfold Fits; simp⟩
  · simp at hcs
    subst hcs
    obtain ⟨bs, hb⟩ := rd_of_row (show IsRow .u8 W (some x) l c zs from .inr ⟨_, rfl, hl, hm, by simpa using hz, hcell, hwz⟩)
    refine ⟨bs, ⟨_, _, _, rfl, hb⟩, ?_⟩
    have hlen := hb.len
    have hll : zs.length = c := by simpa using hz
    have hk := hw (((lits .u8 (zs.take l) : List (DataW H)).length + (lits .u8 (zs.drop l) : List (DataW H)).length) * 1) (by
      rw [hd]
      simp [DataW.weights, ht, hby])
    unfold Fits
    have : reachBytes ≤ 140737488355328 := by decide
    simp [lits] at hk
    omega
/-- Messages one after the other, from each of them. -/
theorem pks_of_each {b o : Nat} {Q : Bra.Pkt → Prop} : ∀ len : Nat, (∀ r, r < len → ∃ m s, W.rangeAt b (o + r * 6) (pkv m s) ∧ SlIs W (fun _ => True) s m.payload ∧ Q m) →
    ∃ ms vs, ms.length = len ∧ PksIs W (fun _ => True) ms vs ∧ (∀ (j : Nat) (v : Value), vs[j]? = some v → W.cell? ⟨b, o + j, none⟩ = some v) ∧ ∀ m ∈ ms, Q m
  | 0, _ => ⟨[], [], rfl, rfl, by simp, by simp⟩
  | len + 1, h => by
    obtain ⟨ms, vs, h1, h2, h3, h4⟩ := pks_of_each len (fun r hr => h r (by omega))
    obtain ⟨m, s, k1, k2, k3⟩ := h len (by omega)
    have hvl := h2.len
    refine ⟨ms ++ [m], vs ++ pkv m s, by simp [h1], h2.snoc k2, fun j v hj => ?_, fun x hx => ?_⟩
    · by_cases hjl : j < vs.length
      · rw [List.getElem?_append_left hjl] at hj
        exact h3 j v hj
      · rw [List.getElem?_append_right (by omega)] at hj
        have := k1 (j - vs.length) v hj
        rw [show o + len * 6 + (j - vs.length) = o + j by omega] at this
        exact this
    · rcases List.mem_append.1 hx with hx | hx
      · exact h4 x hx
      · obtain rfl : x = m := by simpa using hx
        exact k3
/-- What holds of a message that came in. -/
def PktOk (m : Bra.Pkt) : Prop := I64 m.kind ∧ I64 m.src ∧ I64 m.to ∧ I64 m.origin ∧ I64 m.number ∧ Fits m.payload
theorem pkt_of_cells {e q ti u : TypeId} {fs : Array Field} {f0 f1 f2 f3 f4 f5 : Field} {b k fuel : Nat} {v0 v1 v2 v3 v4 v5 : Value} {y : DataW H × List MemPlace} (he : P.underlying e = some (.struct fs))
    (g0 : fs[0]? = some f0) (g1 : fs[1]? = some f1) (g2 : fs[2]? = some f2) (g3 : fs[3]? = some f3) (g4 : fs[4]? = some f4) (g5 : fs[5]? = some f5) (hsz : fs.size = 6)
    (o0 : f0.offset = 0) (o1 : f1.offset = 1) (o2 : f2.offset = 2) (o3 : f3.offset = 3) (o4 : f4.offset = 4) (o5 : f5.offset = 5)
    (t0 : f0.type = ti) (t1 : f1.type = ti) (t2 : f2.type = ti) (t3 : f3.type = ti) (t4 : f4.type = ti) (t5 : f5.type = q)
    (hi : P.underlying ti = some (.int .i64)) (ci : P.cellsOf ti = 1) (cq : P.cellsOf q = 1) (hq : P.underlying q = some (.slice u)) (hu : P.underlying u = some (.int .u8)) (cu : P.cellsOf u = 1) (bu : P.bytesOf u = 1)
    (hc : ∀ (j : Nat) (v : Value), [v0, v1, v2, v3, v4, v5][j]? = some v → W.cell? ⟨b, k + j, none⟩ = some v) (h : DataW.trod enc P W 0 (fun _ => true) true fuel e [v0, v1, v2, v3, v4, v5] = some y) (hw : ∀ n ∈ y.1.weights P e, n ≤ reachBytes) :
    ∃ m s, W.rangeAt b k (pkv m s) ∧ SlIs W (fun _ => True) s m.payload ∧ PktOk m := by
  obtain ⟨xs, n, hn, hxy, _, hxl, hfd⟩ := DataW.trod_struct he h
  rw [hsz] at hxl
  match xs, hxl with
  | [y0, y1, y2, y3, y4, y5], _ =>
    have q0 := hfd 0 f0 g0
    have q1 := hfd 1 f1 g1
    have q2 := hfd 2 f2 g2
    have q3 := hfd 3 f3 g3
    have q4 := hfd 4 f4 g4
    have q5 := hfd 5 f5 g5
    simp [o0, o1, o2, o3, o4, o5, t0, t1, t2, t3, t4, t5, ci, cq] at q0 q1 q2 q3 q4 q5
    obtain ⟨i0, e0, _, b0⟩ := DataW.trod_int hi q0
    obtain ⟨i1, e1, _, b1⟩ := DataW.trod_int hi q1
    obtain ⟨i2, e2, _, b2⟩ := DataW.trod_int hi q2
    obtain ⟨i3, e3, _, b3⟩ := DataW.trod_int hi q3
    obtain ⟨i4, e4, _, b4⟩ := DataW.trod_int hi q4
    have hty : (fs.toList.map (·.type))[5]? = some q := by
      rw [List.getElem?_map, Array.getElem?_toList, g5, ← t5]; rfl
    obtain ⟨bs, hs, hf⟩ := sl_of_cell hq hu cu bu q5 (fun k hk => hw k (by
      rw [hxy]
      simp only [DataW.weights, he]
      exact DataW.weights_mem_each (j := 5) hty rfl k hk))
    simp at e0 e1 e2 e3 e4
    subst e0 e1 e2 e3 e4
    exact ⟨⟨i0, i1, i2, i3, i4, bs⟩, v5, hc, hs, bounds_i64 b0, bounds_i64 b1, bounds_i64 b2, bounds_i64 b3, bounds_i64 b4, hf⟩
theorem pkts_of_trod {t e q ti u : TypeId} {fs : Array Field} {f0 f1 f2 f3 f4 f5 : Field} {a : Option Addr} {len cap : Nat} {d : DataW H} {p : List MemPlace} (ht : P.underlying t = some (.slice e)) (he : P.underlying e = some (.struct fs)) (ce : P.cellsOf e = 6)
    (g0 : fs[0]? = some f0) (g1 : fs[1]? = some f1) (g2 : fs[2]? = some f2) (g3 : fs[3]? = some f3) (g4 : fs[4]? = some f4) (g5 : fs[5]? = some f5) (hsz : fs.size = 6)
    (o0 : f0.offset = 0) (o1 : f1.offset = 1) (o2 : f2.offset = 2) (o3 : f3.offset = 3) (o4 : f4.offset = 4) (o5 : f5.offset = 5)
    (t0 : f0.type = ti) (t1 : f1.type = ti) (t2 : f2.type = ti) (t3 : f3.type = ti) (t4 : f4.type = ti) (t5 : f5.type = q)
    (hi : P.underlying ti = some (.int .i64)) (ci : P.cellsOf ti = 1) (cq : P.cellsOf q = 1) (hq : P.underlying q = some (.slice u)) (hu : P.underlying u = some (.int .u8)) (cu : P.cellsOf u = 1) (bu : P.bytesOf u = 1)
    (h : DataW.Trod enc P W 0 (fun _ => true) true t (.slice a len cap) d p) (hw : ∀ k ∈ d.weights P t, k ≤ reachBytes) : ∃ ms, RdP W (fun _ => True) a len cap ms ∧ ∀ m ∈ ms, PktOk m := by
  obtain ⟨fuel, hf⟩ := h
  rcases Deep.open_slice ht hf with ⟨hcs, _⟩ | ⟨x, l, c, m, n, D, Pl, hcs, hb, hl, hm, hmm, hd, hx⟩
  · simp [Value.cells] at hcs
    obtain ⟨rfl, rfl, rfl⟩ := hcs
    exact ⟨[], ⟨[], Row.nil _ _ _, rfl⟩, by simp⟩
  · simp [Value.cells] at hcs
    obtain ⟨rfl, rfl, rfl⟩ := hcs
    have hmc : m = cap := by simpa using hmm
    subst hmc
    obtain ⟨b, o, s⟩ := x
    have each : ∀ r, r < len → ∃ v0 v1 v2 v3 v4 v5 : Value, (∀ (j : Nat) (v : Value), [v0, v1, v2, v3, v4, v5][j]? = some v → W.cell? (((⟨b, o, s⟩ : Addr).add (r * 6)).add j) = some v) ∧ DataW.trod enc P W 0 (fun _ => true) true n e [v0, v1, v2, v3, v4, v5] = some (D r, Pl r) := by
      intro r hr
      obtain ⟨cs', h1, h2⟩ := hx r (by omega)
      rw [ce] at h1
      obtain ⟨_, hlen, hcell⟩ := World.cells?_some h1
      match cs', hlen with
      | [v0, v1, v2, v3, v4, v5], _ =>
        refine ⟨v0, v1, v2, v3, v4, v5, fun j v hj => ?_, h2⟩
        have hj6 : j < 6 := by
          have := (List.getElem?_eq_some_iff.1 hj).1
          simpa using this
        exact (hcell j hj6).trans hj
    by_cases hn : 0 < len
    · obtain ⟨w0, _, _, _, _, _, hc0, _⟩ := each 0 hn
      have h0 := hc0 0 w0 rfl
      have hs : s = none := by
        cases s with
        | none => rfl
        | some s =>
          simp only [Addr.add, World.cell?, if_pos] at h0
          split at h0 <;> simp at h0
      subst hs
      have hbl : b < W.heap.size := by
        have := World.block_lt_of_cell? W _ h0
        simpa [Addr.add] using this
      obtain ⟨ms, vs, k1, k2, k3, k4⟩ := pks_of_each (W := W) (b := b) (o := o) (Q := PktOk) len (fun r hr => by
        obtain ⟨v0, v1, v2, v3, v4, v5, hv, htr⟩ := each r hr
        refine pkt_of_cells he g0 g1 g2 g3 g4 g5 hsz o0 o1 o2 o3 o4 o5 t0 t1 t2 t3 t4 t5 hi ci cq hq hu cu bu (fun j v hj => ?_) htr (fun k hk => hw k ?_)
        · have := hv j v hj
          rwa [add_none, add_none] at this
        · have hdd : d = .slice ((List.range len).map D) ((List.range (m - len)).map fun j => D (len + j)) := congrArg Prod.fst hd
          rw [hdd]
          simp only [DataW.weights, ht, List.mem_cons, List.mem_append]
          exact .inr (.inl (weightsAll_in (List.mem_map.2 ⟨r, List.mem_range.2 hr, rfl⟩) k hk)))
      have hvl := k2.len
      refine ⟨ms, ⟨vs, ⟨by omega, hl, hm, (fun e => by cases e), fun _ => ⟨b, o, rfl, trivial, hbl, fun i hi => ?_⟩⟩, k2⟩, k4⟩
      have hiv : i < vs.length := by omega
      rw [List.getElem?_eq_getElem hiv]
      exact k3 i _ (List.getElem?_eq_getElem hiv)
    · obtain rfl : len = 0 := by omega
      exact ⟨[], ⟨[], ⟨rfl, hl, hm, (fun e => by cases e), fun h => by omega⟩, rfl⟩, by simp⟩
end
end Go.Proofs.Ytplijfgjdlghbaa

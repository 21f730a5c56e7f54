/-
  Items that came in.
-/
import Derived.Test.YthoaenpbmmjokaaDoorArg
import Derived.Test.YthoaenpbmmjokaaDoorObAt
import Derived.ChangeSlices
import Derived.Deep.Slices
namespace Go.Proofs.YthoaenpbmmjokaaDoor
open Go.ChangeShapes Go.WideShapes Go.ChangeAt Go.RowKit Go.Pl
theorem rds_each {W : World} {b o : Nat} {n : Nat} {xs : List (List UInt8)} (hc : ∀ r, r < n → ∃ Ar cr, W.cell? ⟨b, o + r, Option.none⟩ = some (.slice Ar (xs.getD r []).length cr) ∧ Rd W (fun _ => True) Ar (xs.getD r []).length cr (xs.getD r [])) :
    ∀ len, len ≤ n → n = xs.length → ∃ vs, vs.length = len ∧ SlsIs W (fun _ => True) (xs.take len) vs ∧ ∀ (j : Nat) (v : Value), vs[j]? = some v → W.cell? ⟨b, o + j, none⟩ = some v
  | 0, _, _ => ⟨[], rfl, by simp [SlsIs], by simp⟩
  | len + 1, h, hn => by
    obtain ⟨vs, h1, h2, h3⟩ := rds_each hc len (by omega) hn
    obtain ⟨Ar, cr, k1, k2⟩ := hc len (by omega)
    have hx : xs.getD len [] = xs[len]'(by omega) := by simp [List.getD_eq_getElem?_getD, List.getElem?_eq_getElem (show len < xs.length by omega)]
    refine ⟨vs ++ [.slice Ar (xs.getD len []).length cr], by simp [h1], ?_, fun j v hj => ?_⟩
    · rw [List.take_succ_eq_append_getElem (by omega), ← hx]
      exact h2.append (SlsIs.one ⟨_, _, _, rfl, k2⟩)
    · by_cases hjl : j < vs.length
      · rw [List.getElem?_append_left hjl] at hj
        exact h3 j v hj
      · rw [List.getElem?_append_right (by omega)] at hj
        obtain rfl : j = len := by
          have := (List.getElem?_eq_some_iff.1 hj).1
          simp at this
          omega
        simp [h1] at hj
        rw [← hj]
        simpa using k1
theorem rds_of_rdr {W : World} {A : Option Addr} {n c : Nat} {xs : List (List UInt8)} (h : RdR W (fun _ => True) A n c xs) : RdS W (fun _ => True) A n c xs := by
  by_cases hn : 0 < n
  · obtain ⟨b, o, hA, -, hb, hc⟩ := h.at_ hn
    obtain ⟨vs, h1, h2, h3⟩ := rds_each hc n (Nat.le_refl _) h.len
    rw [h.len, List.take_length] at h2
    refine ⟨vs, ⟨by omega, h.le, h.max, h.none, fun _ => ⟨b, o, hA, trivial, hb, fun i hi => ?_⟩⟩, h2⟩
    rw [List.getElem?_eq_getElem (by omega)]
    exact h3 i _ (List.getElem?_eq_getElem (by omega))
  · obtain rfl : n = 0 := by omega
    have hx : xs = [] := List.eq_nil_of_length_eq_zero h.len.symm
    subst hx
    exact ⟨[], ⟨rfl, h.le, h.max, h.none, fun h => by omega⟩, rfl⟩
section
variable {H : Type} {enc : TypeId × Value → H} {P : Program} {W : World}
theorem sl_of_cell' {t e : TypeId} {v : Value} {d : DataW H × List MemPlace} {fuel : Nat} (ht : P.underlying t = some (.slice e)) (he : P.underlying e = some (.int .u8)) (hc : P.cellsOf e = 1)
    (h : DataW.trod enc P W 0 (fun _ => true) true fuel t [v] = some d) : ∃ bs, SlIs W (fun _ => True) v bs := by
  rcases open_ints ht he hc h with ⟨hcs, _⟩ | ⟨x, l, c, zs, hcs, _, hl, hm, hz, hd, hcell, hwz⟩
  · simp at hcs
    subst hcs
    exact ⟨[], ⟨none, 0, 0, rfl, rfl, Nat.le_refl _, by simp [maxLen], fun _ => rfl, fun h => by omega⟩⟩
  · simp at hcs
    subst hcs
    obtain ⟨bs, hb⟩ := rd_of_row (show IsRow .u8 W (some x) l c zs from .inr ⟨_, rfl, hl, hm, by simpa using hz, hcell, hwz⟩)
    exact ⟨bs, ⟨_, _, _, rfl, hb⟩⟩
theorem path_of_cell {t e q : TypeId} {v : Value} {d : DataW H × List MemPlace} {fuel : Nat} (ht : P.underlying t = some (.slice e)) (he : P.underlying e = some (.slice q)) (hq : P.underlying q = some (.int .u8)) (ce : P.cellsOf e = 1) (cq : P.cellsOf q = 1)
    (h : DataW.trod enc P W 0 (fun _ => true) true fuel t [v] = some d) : ∃ xs, PathIs W (fun _ => True) v xs := by
  obtain ⟨a, len, cap, rfl⟩ : ∃ a len cap, v = .slice a len cap := by
    rcases Deep.open_slice ht h with ⟨hcs, _⟩ | ⟨x, l, c, m, n, D, Pl, hcs, _⟩
    · simp at hcs
      exact ⟨_, _, _, hcs⟩
    · simp at hcs
      exact ⟨_, _, _, hcs⟩
  obtain ⟨xs, hx⟩ := rows_of_trod (a := a) (len := len) (cap := cap) (d := d.1) (p := d.2) ht he hq ce cq ⟨fuel, h⟩
  exact ⟨xs, _, _, _, rfl, rds_of_rdr hx⟩
theorem item_of_cells {e ts tb tc tp te tu : TypeId} {fs : Array Field} {f0 f1 f2 f3 : Field} {fuel : Nat} {v0 v1 v2 v3 : Value} {y : DataW H × List MemPlace} (he : P.underlying e = some (.struct fs))
    (g0 : fs[0]? = some f0) (g1 : fs[1]? = some f1) (g2 : fs[2]? = some f2) (g3 : fs[3]? = some f3) (hsz : fs.size = 4)
    (o0 : f0.offset = 0) (o1 : f1.offset = 1) (o2 : f2.offset = 2) (o3 : f3.offset = 3)
    (t0 : f0.type = ts) (t1 : f1.type = tb) (t2 : f2.type = tc) (t3 : f3.type = tp)
    (us : P.underlying ts = some .string) (ub : P.underlying tb = some .bool) (cs : P.cellsOf ts = 1) (cb : P.cellsOf tb = 1) (cc : P.cellsOf tc = 1) (cp : P.cellsOf tp = 1)
    (uc : P.underlying tc = some (.slice tu)) (uu : P.underlying tu = some (.int .u8)) (cu : P.cellsOf tu = 1) (up : P.underlying tp = some (.slice te)) (ue : P.underlying te = some (.slice tu)) (ce : P.cellsOf te = 1)
    (h : DataW.trod enc P W 0 (fun _ => true) true fuel e [v0, v1, v2, v3] = some y) :
    ∃ x s p, [v0, v1, v2, v3] = itv x s p ∧ SlIs W (fun _ => True) s x.content ∧ PathIs W (fun _ => True) p x.path := by
  obtain ⟨xs, n, hn, hxy, _, hxl, hfd⟩ := DataW.trod_struct he h
  rw [hsz] at hxl
  match xs, hxl with
  | [y0, y1, y2, y3], _ =>
    have q0 := hfd 0 f0 g0
    have q1 := hfd 1 f1 g1
    have q2 := hfd 2 f2 g2
    have q3 := hfd 3 f3 g3
    simp [o0, o1, o2, o3, t0, t1, t2, t3, cs, cb, cc, cp] at q0 q1 q2 q3
    obtain ⟨s0, e0, _, _⟩ := DataW.trod_string us q0
    obtain ⟨b1, e1, _⟩ := DataW.trod_bool ub q1
    obtain ⟨bs, hs⟩ := sl_of_cell' uc uu cu q2
    obtain ⟨ps, hp⟩ := path_of_cell up ue uu ce cu q3
    simp at e0 e1
    subst e0 e1
    exact ⟨⟨s0.data.toList, b1, bs, ps⟩, v2, v3, by simp [itv], hs, hp⟩
theorem its_of_each {b o : Nat} : ∀ len : Nat, (∀ r, r < len → ∃ x s p, (∀ (j : Nat) (v : Value), (itv x s p)[j]? = some v → W.cell? ⟨b, o + r * 4 + j, none⟩ = some v) ∧ SlIs W (fun _ => True) s x.content ∧ PathIs W (fun _ => True) p x.path) →
    ∃ xs vs, xs.length = len ∧ ItsIs W (fun _ => True) xs vs ∧ ∀ (j : Nat) (v : Value), vs[j]? = some v → W.cell? ⟨b, o + j, none⟩ = some v
  | 0, _ => ⟨[], [], rfl, rfl, by simp⟩
  | len + 1, h => by
    obtain ⟨xs, vs, h1, h2, h3⟩ := its_of_each (o := o + 4) len (fun r hr => by
      obtain ⟨x, s, p, k1, k2, k3⟩ := h (r + 1) (by omega)
      refine ⟨x, s, p, fun j v hj => ?_, k2, k3⟩
      have := k1 j v hj
      rwa [show o + (r + 1) * 4 + j = o + 4 + r * 4 + j by omega] at this)
    obtain ⟨x, s, p, k1, k2, k3⟩ := h 0 (by omega)
    refine ⟨x :: xs, itv x s p ++ vs, by simp [h1], ⟨s, p, vs, rfl, k2, k3, h2⟩, fun j v hj => ?_⟩
    by_cases hjl : j < 4
    · rw [List.getElem?_append_left (by simp [itv]; omega)] at hj
      have := k1 j v hj
      rwa [show o + 0 * 4 + j = o + j by omega] at this
    · rw [List.getElem?_append_right (by simp [itv]; omega)] at hj
      have := h3 _ v hj
      have hl : (itv x s p).length = 4 := rfl
      rwa [hl, show o + 4 + (j - 4) = o + j by omega] at this
theorem items_of_trod {t e ts tb tc tp te tu : TypeId} {fs : Array Field} {f0 f1 f2 f3 : Field} {a : Option Addr} {len cap : Nat} {d : DataW H} {pl : List MemPlace} (ht : P.underlying t = some (.slice e)) (he : P.underlying e = some (.struct fs)) (ce4 : P.cellsOf e = 4)
    (g0 : fs[0]? = some f0) (g1 : fs[1]? = some f1) (g2 : fs[2]? = some f2) (g3 : fs[3]? = some f3) (hsz : fs.size = 4)
    (o0 : f0.offset = 0) (o1 : f1.offset = 1) (o2 : f2.offset = 2) (o3 : f3.offset = 3)
    (t0 : f0.type = ts) (t1 : f1.type = tb) (t2 : f2.type = tc) (t3 : f3.type = tp)
    (us : P.underlying ts = some .string) (ub : P.underlying tb = some .bool) (cs : P.cellsOf ts = 1) (cb : P.cellsOf tb = 1) (cc : P.cellsOf tc = 1) (cp : P.cellsOf tp = 1)
    (uc : P.underlying tc = some (.slice tu)) (uu : P.underlying tu = some (.int .u8)) (cu : P.cellsOf tu = 1) (up : P.underlying tp = some (.slice te)) (ue : P.underlying te = some (.slice tu)) (ce : P.cellsOf te = 1)
    (h : DataW.Trod enc P W 0 (fun _ => true) true t (.slice a len cap) d pl) : ∃ xs, RdI W (fun _ => True) a len cap xs := by
  obtain ⟨fuel, hf⟩ := h
  rcases Deep.open_slice ht hf with ⟨hcs, _⟩ | ⟨x, l, c, m, n, D, Pl, hcs, hb, hl, hm, hmm, hd, hx⟩
  · simp [Value.cells] at hcs
    obtain ⟨rfl, rfl, rfl⟩ := hcs
    exact ⟨[], [], Row.nil _ _ _, rfl⟩
  · simp [Value.cells] at hcs
    obtain ⟨rfl, rfl, rfl⟩ := hcs
    have hmc : m = cap := by simpa using hmm
    subst hmc
    obtain ⟨b, o, s⟩ := x
    have each : ∀ r, r < len → ∃ v0 v1 v2 v3 : Value, (∀ (j : Nat) (v : Value), [v0, v1, v2, v3][j]? = some v → W.cell? (((⟨b, o, s⟩ : Addr).add (r * 4)).add j) = some v) ∧ DataW.trod enc P W 0 (fun _ => true) true n e [v0, v1, v2, v3] = some (D r, Pl r) := by
      intro r hr
      obtain ⟨cs', h1, h2⟩ := hx r (by omega)
      rw [ce4] at h1
      obtain ⟨_, hlen, hcell⟩ := World.cells?_some h1
      match cs', hlen with
      | [v0, v1, v2, v3], _ =>
        refine ⟨v0, v1, v2, v3, fun j v hj => ?_, h2⟩
        have hj6 : j < 4 := by
          have := (List.getElem?_eq_some_iff.1 hj).1
          simpa using this
        exact (hcell j hj6).trans hj
    by_cases hn : 0 < len
    · obtain ⟨w0, _, _, _, hc0, _⟩ := each 0 hn
      have h0 := hc0 0 w0 rfl
      have hs : s = none := by
        cases s with
        | none => rfl
        | some s =>
          simp only [Addr.add, World.cell?, if_pos] at h0
          split at h0 <;> simp at h0
      subst hs
      have hbl : b < W.heap.size := by
        have := World.block_lt_of_cell? W _ h0
        simpa [Addr.add] using this
      obtain ⟨xs, vs, k1, k2, k3⟩ := its_of_each (W := W) (b := b) (o := o) len (fun r hr => by
        obtain ⟨v0, v1, v2, v3, hv, htr⟩ := each r hr
        obtain ⟨x, s, p, e1, e2, e3⟩ := item_of_cells he g0 g1 g2 g3 hsz o0 o1 o2 o3 t0 t1 t2 t3 us ub cs cb cc cp uc uu cu up ue ce htr
        rw [e1] at hv
        refine ⟨x, s, p, fun j v hj => ?_, e2, e3⟩
        have := hv j v hj
        rwa [add_none, add_none] at this)
      have hvl := k2.len
      refine ⟨xs, vs, ⟨by omega, hl, hm, (fun e => by cases e), fun _ => ⟨b, o, rfl, trivial, hbl, fun i hi => ?_⟩⟩, k2⟩
      have hiv : i < vs.length := by omega
      rw [List.getElem?_eq_getElem hiv]
      exact k3 i _ (List.getElem?_eq_getElem hiv)
    · obtain rfl : len = 0 := by omega
      exact ⟨[], [], ⟨rfl, hl, hm, (fun e => by cases e), fun h => by omega⟩, rfl⟩
theorem item_of_trod {e ts tb tc tp te tu : TypeId} {fs : Array Field} {f0 f1 f2 f3 : Field} {cs : Array Value} {d : DataW H} {pl : List MemPlace} (he : P.underlying e = some (.struct fs)) (ce4 : P.cellsOf e = 4)
    (g0 : fs[0]? = some f0) (g1 : fs[1]? = some f1) (g2 : fs[2]? = some f2) (g3 : fs[3]? = some f3) (hsz : fs.size = 4)
    (o0 : f0.offset = 0) (o1 : f1.offset = 1) (o2 : f2.offset = 2) (o3 : f3.offset = 3)
    (t0 : f0.type = ts) (t1 : f1.type = tb) (t2 : f2.type = tc) (t3 : f3.type = tp)
    (us : P.underlying ts = some .string) (ub : P.underlying tb = some .bool) (cs1 : P.cellsOf ts = 1) (cb : P.cellsOf tb = 1) (cc : P.cellsOf tc = 1) (cp : P.cellsOf tp = 1)
    (uc : P.underlying tc = some (.slice tu)) (uu : P.underlying tu = some (.int .u8)) (cu : P.cellsOf tu = 1) (up : P.underlying tp = some (.slice te)) (ue : P.underlying te = some (.slice tu)) (ce : P.cellsOf te = 1)
    (hcs : cs.size = P.cellsOf e) (h : DataW.Trod enc P W 0 (fun _ => true) true e (.agg cs) d pl) :
    ∃ (x : Ob.It) (A : Option Addr) (n c : Nat) (B : Option Addr) (m k : Nat), cs = #[.string ⟨x.key.toArray⟩, .bool x.present, .slice A n c, .slice B m k] ∧ Rd W (fun _ => True) A n c x.content ∧ RdS W (fun _ => True) B m k x.path := by
  rw [ce4] at hcs
  obtain ⟨fuel, hf⟩ := h
  obtain ⟨l⟩ := cs
  match l, hcs with
  | [v0, v1, v2, v3], _ =>
    obtain ⟨x, s, p, e1, ⟨A, n, c, rfl, hA⟩, ⟨B, m, k, rfl, hB⟩⟩ := item_of_cells he g0 g1 g2 g3 hsz o0 o1 o2 o3 t0 t1 t2 t3 us ub cs1 cb cc cp uc uu cu up ue ce hf
    refine ⟨x, A, n, c, B, m, k, ?_, hA, hB⟩
    simp only [itv, List.cons.injEq, and_true] at e1
    obtain ⟨rfl, rfl, rfl, rfl⟩ := e1
    rfl
end
end Go.Proofs.YthoaenpbmmjokaaDoor

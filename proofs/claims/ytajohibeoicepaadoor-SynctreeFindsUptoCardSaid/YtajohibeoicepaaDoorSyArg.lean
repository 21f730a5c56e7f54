/-
  Commands and digests that came in, and what bounds them.
-/
import Derived.Test.YtajohibeoicepaaDoorArg
import Derived.Test.YtajohibeoicepaaDoorSyAt
import Derived.Test.YtajohibeoicepaaDoorCards
import Derived.Test.YtajohibeoicepaaDoorTie
import Derived.ChangeSlices
import Derived.Deep.Slices
namespace Go.Proofs.YtajohibeoicepaaDoor
open Go.ChangeShapes Go.WideShapes Go.ChangeAt Go.RowKit Go.Pl
theorem blk_one_le {H : Type} (d : DataW H) : 1 ≤ Rows.uptoBulk d := by
  cases d with
  | lit l => cases l <;> simp [Rows.uptoBulk]
  | nil => simp [Rows.uptoBulk]
  | ptr d => simp [Rows.uptoBulk]
  | slice elems spare => simp [Rows.uptoBulk]
  | agg parts => simp [Rows.uptoBulk]
  | iface t d => simp [Rows.uptoBulk]
  | map entries => simp [Rows.uptoBulk]
  | held h => simp [Rows.uptoBulk]
theorem blk_append {H : Type} (l r : List (DataW H)) : Rows.uptoBulkAll (l ++ r) = Rows.uptoBulkAll l + Rows.uptoBulkAll r := by
  induction l with
  | nil => simp [Rows.uptoBulkAll]
  | cons x l ih => simp only [List.cons_append, Rows.uptoBulkAll, ih]; omega
theorem blk_len {H : Type} (l : List (DataW H)) : l.length ≤ Rows.uptoBulkAll l := by
  induction l with
  | nil => simp [Rows.uptoBulkAll]
  | cons x r ih => have := blk_one_le x; simp only [Rows.uptoBulkAll, List.length_cons]; omega
section
variable {H : Type} {enc : TypeId × Value → H} {P : Program} {W : World}
/-- Bytes that came in. -/
theorem bytes_in {t e : TypeId} {v : Value} {d : DataW H × List MemPlace} {fuel : Nat} (ht : P.underlying t = some (.slice e)) (he : P.underlying e = some (.int .u8)) (hc : P.cellsOf e = 1)
    (h : DataW.trod enc P W 0 (fun _ => true) true fuel t [v] = some d) : ∃ A n c bs, v = .slice A n c ∧ Rd W (fun _ => True) A n c bs ∧ bs.length < Rows.uptoBulk d.1 := by
  rcases open_ints ht he hc h with ⟨hcs, hd⟩ | ⟨x, l, c, zs, hcs, _, hl, hm, hz, hd, hcell, hwz⟩
  · simp at hcs
    subst hcs
    exact ⟨none, 0, 0, [], rfl, ⟨rfl, Nat.le_refl _, by simp [maxLen], fun _ => rfl, fun h => by omega⟩, by have := blk_one_le d.1; simp; omega⟩
  · simp at hcs
    subst hcs
    obtain ⟨bs, hb⟩ := rd_of_row (show IsRow .u8 W (some x) l c zs from .inr ⟨_, rfl, hl, hm, by simpa using hz, hcell, hwz⟩)
    refine ⟨_, _, _, bs, rfl, hb, ?_⟩
    rw [hd, Rows.uptoBulk]
    have h1 := blk_len (lits .u8 (zs.take l) : List (DataW H))
    have h2 := hb.len
    have hzl : zs.length = c := by simpa using hz
    simp [lits] at h1 ⊢
    omega
theorem digest_in {e tp ti tu : TypeId} {fs : Array Field} {f0 f1 f2 : Field} {fuel : Nat} {v0 v1 v2 : Value} {y : DataW H × List MemPlace} (he : P.underlying e = some (.struct fs))
    (g0 : fs[0]? = some f0) (g1 : fs[1]? = some f1) (g2 : fs[2]? = some f2) (hsz : fs.size = 3) (o0 : f0.offset = 0) (o1 : f1.offset = 1) (o2 : f2.offset = 2) (t0 : f0.type = tp) (t1 : f1.type = tp) (t2 : f2.type = ti)
    (up : P.underlying tp = some (.slice tu)) (uu : P.underlying tu = some (.int .u8)) (ui : P.underlying ti = some (.int .i64)) (cp : P.cellsOf tp = 1) (cu : P.cellsOf tu = 1) (ci : P.cellsOf ti = 1)
    (h : DataW.trod enc P W 0 (fun _ => true) true fuel e [v0, v1, v2] = some y) :
    ∃ (x : Sy.Dg) (A : Option Addr) (n c : Nat) (B : Option Addr) (m k : Nat), v0 = .slice A n c ∧ v1 = .slice B m k ∧ v2 = .int .i64 x.count ∧ Rd W (fun _ => True) A n c x.pre ∧ Rd W (fun _ => True) B m k x.sum ∧ x.pre.length < Rows.uptoBulk y.1 := by
  obtain ⟨xs, n, hn, hxy, _, hxl, hfd⟩ := DataW.trod_struct he h
  rw [hsz] at hxl
  match xs, hxl with
  | [y0, y1, y2], _ =>
    have q0 := hfd 0 f0 g0
    have q1 := hfd 1 f1 g1
    have q2 := hfd 2 f2 g2
    simp [o0, o1, o2, t0, t1, t2, cp, ci] at q0 q1 q2
    obtain ⟨A, n, c, bs, rfl, hA, hl⟩ := bytes_in up uu cu q0
    obtain ⟨B, m, k, cs, rfl, hB, -⟩ := bytes_in up uu cu q1
    obtain ⟨z, e2, _, _⟩ := DataW.trod_int ui q2
    simp at e2
    subst e2
    refine ⟨⟨bs, cs, z⟩, A, n, c, B, m, k, rfl, rfl, rfl, hA, hB, ?_⟩
    rw [hxy]
    simp only [Rows.uptoBulk, List.map_cons, List.map_nil, Rows.uptoBulkAll]
    show bs.length < _
    omega
theorem digest_of_trod {e tp ti tu : TypeId} {fs : Array Field} {f0 f1 f2 : Field} {cs : Array Value} {d : DataW H} {pl : List MemPlace} (he : P.underlying e = some (.struct fs)) (ce : P.cellsOf e = 3)
    (g0 : fs[0]? = some f0) (g1 : fs[1]? = some f1) (g2 : fs[2]? = some f2) (hsz : fs.size = 3) (o0 : f0.offset = 0) (o1 : f1.offset = 1) (o2 : f2.offset = 2) (t0 : f0.type = tp) (t1 : f1.type = tp) (t2 : f2.type = ti)
    (up : P.underlying tp = some (.slice tu)) (uu : P.underlying tu = some (.int .u8)) (ui : P.underlying ti = some (.int .i64)) (cp : P.cellsOf tp = 1) (cu : P.cellsOf tu = 1) (ci : P.cellsOf ti = 1)
    (hcs : cs.size = P.cellsOf e) (h : DataW.Trod enc P W 0 (fun _ => true) true e (.agg cs) d pl) :
    ∃ (x : Sy.Dg) (A : Option Addr) (n c : Nat) (B : Option Addr) (m k : Nat), cs = #[.slice A n c, .slice B m k, .int .i64 x.count] ∧ Rd W (fun _ => True) A n c x.pre ∧ Rd W (fun _ => True) B m k x.sum := by
  rw [ce] at hcs
  obtain ⟨fuel, hf⟩ := h
  obtain ⟨l⟩ := cs
  match l, hcs with
  | [v0, v1, v2], _ =>
    obtain ⟨x, A, n, c, B, m, k, rfl, rfl, rfl, hA, hB, -⟩ := digest_in he g0 g1 g2 hsz o0 o1 o2 t0 t1 t2 up uu ui cp cu ci hf
    exact ⟨x, A, n, c, B, m, k, rfl, hA, hB⟩
theorem blk_mem {l : List (DataW H)} {d : DataW H} (h : d ∈ l) : Rows.uptoBulk d ≤ Rows.uptoBulkAll l := by
  induction l with
  | nil => cases h
  | cons x r ih =>
    simp only [Rows.uptoBulkAll]
    rcases List.mem_cons.1 h with rfl | h
    · omega
    · have := ih h; omega
/-- Values one after the other, from each of them; their weights. -/
theorem els_of_each {α : Type} (L : Lay α) (μ : α → Nat) (c : Nat) {b o : Nat} {D : Nat → DataW H} : ∀ len : Nat, (∀ r, r < len → ∃ x u, L.R W (fun _ => True) x u ∧ (∀ (j : Nat) (v : Value), u[j]? = some v → W.cell? ⟨b, o + r * L.k + j, none⟩ = some v) ∧ μ x ≤ c * Rows.uptoBulk (D r)) →
    ∃ xs vs, xs.length = len ∧ Els L W (fun _ => True) xs vs ∧ (∀ (j : Nat) (v : Value), vs[j]? = some v → W.cell? ⟨b, o + j, none⟩ = some v) ∧ (xs.map μ).sum ≤ c * Rows.uptoBulkAll ((List.range len).map D)
  | 0, _ => ⟨[], [], rfl, rfl, by simp, by simp⟩
  | len + 1, h => by
    obtain ⟨xs, vs, h1, h2, h3, h4⟩ := els_of_each L μ c len (fun r hr => h r (by omega))
    obtain ⟨x, u, k1, k2, k3⟩ := h len (by omega)
    have hvl := h2.len
    refine ⟨xs ++ [x], vs ++ u, by simp [h1], h2.append (Els.single k1), fun j v hj => ?_, ?_⟩
    · by_cases hjl : j < vs.length
      · rw [List.getElem?_append_left hjl] at hj
        exact h3 j v hj
      · rw [List.getElem?_append_right (by omega)] at hj
        have := k2 (j - vs.length) v hj
        rwa [show o + len * L.k + (j - vs.length) = o + j by rw [← h1, ← hvl]; omega] at this
    · rw [List.range_succ, List.map_append, List.map_append, blk_append, List.sum_append, Nat.mul_add]
      have e : Rows.uptoBulkAll ([len].map D) = Rows.uptoBulk (D len) := by simp [Rows.uptoBulkAll]
      rw [e]
      simp
      omega
/-- A slice of such values that came in. -/
theorem rde_in {α : Type} (L : Lay α) (μ : α → Nat) (c : Nat) {t e : TypeId} {v : Value} {d : DataW H × List MemPlace} {fuel : Nat} (ht : P.underlying t = some (.slice e)) (hc : P.cellsOf e = L.k)
    (each : ∀ (n : Nat) (cs : List Value) (y : DataW H × List MemPlace), cs.length = L.k → DataW.trod enc P W 0 (fun _ => true) true n e cs = some y → ∃ x, L.R W (fun _ => True) x cs ∧ μ x ≤ c * Rows.uptoBulk y.1)
    (h : DataW.trod enc P W 0 (fun _ => true) true fuel t [v] = some d) : ∃ A n k xs, v = .slice A n k ∧ RdE L W (fun _ => True) A n k xs ∧ n < Rows.uptoBulk d.1 ∧ (xs.map μ).sum ≤ c * Rows.uptoBulk d.1 := by
  rcases Deep.open_slice ht h with ⟨hcs, hd⟩ | ⟨x, l, cap, m, n, D, Pl, hcs, hb, hl, hm, hmm, hd, hx⟩
  · simp at hcs
    subst hcs
    exact ⟨none, 0, 0, [], rfl, RdE.nil _ _ _, blk_one_le _, by simp⟩
  · simp at hcs
    subst hcs
    have hmc : m = cap := by simpa using hmm
    subst hmc
    obtain ⟨b, o, s⟩ := x
    have hbulk : Rows.uptoBulkAll ((List.range l).map D) + 1 ≤ Rows.uptoBulk d.1 := by
      rw [hd]
      simp only [Rows.uptoBulk]
      omega
    have hln := blk_len ((List.range l).map D)
    simp at hln
    have each' : ∀ r, r < l → ∃ (u : List Value) (x : α), L.R W (fun _ => True) x u ∧ (∀ (j : Nat) (v : Value), u[j]? = some v → W.cell? (((⟨b, o, s⟩ : Addr).add (r * L.k)).add j) = some v) ∧ μ x ≤ c * Rows.uptoBulk (D r) := by
      intro r hr
      obtain ⟨cs', h1, h2⟩ := hx r (by omega)
      rw [hc] at h1
      obtain ⟨_, hlen, hcell⟩ := World.cells?_some h1
      obtain ⟨x, k1, k2⟩ := each n cs' _ hlen h2
      exact ⟨cs', x, k1, fun j v hj => (hcell j (by rw [← hlen]; exact (List.getElem?_eq_some_iff.1 hj).1)).trans hj, k2⟩
    by_cases hn : 0 < l
    · obtain ⟨u, x, k1, k2, k3⟩ := each' 0 hn
      have hul := L.len k1
      have hkp := L.pos
      obtain ⟨v0, hv0⟩ : ∃ v0, u[0]? = some v0 := ⟨_, List.getElem?_eq_getElem (by omega)⟩
      have h0 := k2 0 v0 hv0
      have hs : s = none := by
        cases s with
        | none => rfl
        | some s =>
          simp only [Addr.add, World.cell?, if_pos] at h0
          split at h0 <;> simp at h0
      subst hs
      have hbl : b < W.heap.size := by
        have := World.block_lt_of_cell? W _ h0
        simpa [Addr.add] using this
      obtain ⟨xs, vs, q1, q2, q3, q4⟩ := els_of_each L μ c (b := b) (o := o) (D := D) l (fun r hr => by
        obtain ⟨u, x, k1, k2, k3⟩ := each' r hr
        refine ⟨x, u, k1, fun j v hj => ?_, k3⟩
        have := k2 j v hj
        rwa [add_none, add_none] at this)
      have hvl := q2.len
      refine ⟨some ⟨b, o, none⟩, l, m, xs, rfl, ⟨vs, ⟨by rw [hvl, q1], hl, hm, (fun e => by cases e), fun _ => ⟨b, o, rfl, trivial, hbl, fun i hi => ?_⟩⟩, q2⟩, by omega, ?_⟩
      · have hiv : i < vs.length := by rw [hvl, q1]; exact hi
        rw [List.getElem?_eq_getElem hiv]
        exact q3 i _ (List.getElem?_eq_getElem hiv)
      · have := Nat.mul_le_mul_left c (show Rows.uptoBulkAll ((List.range l).map D) ≤ Rows.uptoBulk d.1 by omega)
        omega
    · obtain rfl : l = 0 := by omega
      exact ⟨_, 0, m, [], rfl, ⟨[], ⟨by simp, by omega, hm, (fun e => by cases e), fun h => by omega⟩, rfl⟩, by omega, by simp⟩
/-- What a write weighs. -/
def wtw (x : Sy.Wt) : Nat := x.object.length + x.delta.length + 20
theorem wsz_sum : ∀ l : List Sy.Wt, Sy.wsz l = (l.map wtw).sum
  | [] => rfl
  | x :: l => by simp only [Sy.wsz, List.map_cons, List.sum_cons, wsz_sum l, wtw]
theorem write_in {e ts tb tu : TypeId} {fs : Array Field} {f0 f1 : Field} {fuel : Nat} {cs : List Value} {y : DataW H × List MemPlace} (he : P.underlying e = some (.struct fs)) (g0 : fs[0]? = some f0) (g1 : fs[1]? = some f1) (hsz : fs.size = 2) (o0 : f0.offset = 0) (o1 : f1.offset = 1) (t0 : f0.type = ts) (t1 : f1.type = tb)
    (us : P.underlying ts = some .string) (ub : P.underlying tb = some (.slice tu)) (uu : P.underlying tu = some (.int .u8)) (c0 : P.cellsOf ts = 1) (c1 : P.cellsOf tb = 1) (cu : P.cellsOf tu = 1) (hl : cs.length = 2)
    (h : DataW.trod enc P W 0 (fun _ => true) true fuel e cs = some y) : ∃ x, lWt.R W (fun _ => True) x cs ∧ wtw x ≤ 7 * Rows.uptoBulk y.1 := by
  obtain ⟨xs, n, hn, hxy, _, hxl, hfd⟩ := DataW.trod_struct he h
  rw [hsz] at hxl
  match xs, hxl, cs, hl with
  | [y0, y1], _, [v0, v1], _ =>
    have q0 := hfd 0 f0 g0
    have q1 := hfd 1 f1 g1
    simp [o0, o1, t0, t1, c0, c1] at q0 q1
    obtain ⟨s0, e0, e1, _⟩ := DataW.trod_string us q0
    obtain ⟨A, n, c, bs, rfl, hA, hl⟩ := bytes_in ub uu cu q1
    simp at e0
    subst e0
    refine ⟨⟨s0.data.toList, bs⟩, ⟨A, n, c, by simp, hA⟩, ?_⟩
    rw [hxy]
    simp only [Rows.uptoBulk, List.map_cons, List.map_nil, Rows.uptoBulkAll, wtw]
    rw [e1]
    simp only [Rows.uptoBulk]
    omega
/-- What a command weighs. -/
def cmw (x : Sy.Cm) : Nat := Sy.wsz x.writes + x.tag.length
theorem command_in {e ti tw tb te ts tu : TypeId} {fs gs : Array Field} {f0 f1 f2 f3 f4 f5 h0 h1 : Field} {fuel : Nat} {cs : List Value} {y : DataW H × List MemPlace} (he : P.underlying e = some (.struct fs)) (g0 : fs[0]? = some f0) (g1 : fs[1]? = some f1) (g2 : fs[2]? = some f2) (g3 : fs[3]? = some f3) (g4 : fs[4]? = some f4) (g5 : fs[5]? = some f5) (hsz : fs.size = 6)
    (o0 : f0.offset = 0) (o1 : f1.offset = 1) (o2 : f2.offset = 2) (o3 : f3.offset = 3) (o4 : f4.offset = 4) (o5 : f5.offset = 5) (t0 : f0.type = ti) (t1 : f1.type = ti) (t2 : f2.type = ti) (t3 : f3.type = tw) (t4 : f4.type = ti) (t5 : f5.type = tb)
    (ui : P.underlying ti = some (.int .i64)) (uw : P.underlying tw = some (.slice te)) (ub : P.underlying tb = some (.slice tu)) (uu : P.underlying tu = some (.int .u8)) (ci : P.cellsOf ti = 1) (cw : P.cellsOf tw = 1) (cb : P.cellsOf tb = 1) (cu : P.cellsOf tu = 1)
    (ue : P.underlying te = some (.struct gs)) (ce : P.cellsOf te = 2) (k0 : gs[0]? = some h0) (k1 : gs[1]? = some h1) (ksz : gs.size = 2) (m0 : h0.offset = 0) (m1 : h1.offset = 1) (n0 : h0.type = ts) (n1 : h1.type = tb) (us : P.underlying ts = some .string) (c0 : P.cellsOf ts = 1) (hl : cs.length = 6)
    (h : DataW.trod enc P W 0 (fun _ => true) true fuel e cs = some y) : ∃ x, lCm.R W (fun _ => True) x cs ∧ cmw x ≤ 7 * Rows.uptoBulk y.1 := by
  obtain ⟨xs, n, hn, hxy, _, hxl, hfd⟩ := DataW.trod_struct he h
  rw [hsz] at hxl
  match xs, hxl, cs, hl with
  | [y0, y1, y2, y3, y4, y5], _, [v0, v1, v2, v3, v4, v5], _ =>
    have q0 := hfd 0 f0 g0
    have q1 := hfd 1 f1 g1
    have q2 := hfd 2 f2 g2
    have q3 := hfd 3 f3 g3
    have q4 := hfd 4 f4 g4
    have q5 := hfd 5 f5 g5
    simp [o0, o1, o2, o3, o4, o5, t0, t1, t2, t3, t4, t5, ci, cw, cb] at q0 q1 q2 q3 q4 q5
    obtain ⟨z0, e0, -, b0⟩ := DataW.trod_int ui q0
    obtain ⟨z1, e1, -, b1⟩ := DataW.trod_int ui q1
    obtain ⟨z2, e2, -, b2⟩ := DataW.trod_int ui q2
    obtain ⟨z4, e4, -, b4⟩ := DataW.trod_int ui q4
    obtain ⟨A, n1', c1', ws, rfl, hA, -, hw⟩ := rde_in lWt wtw 7 uw ce (fun n cs y hl h => write_in ue k0 k1 ksz m0 m1 n0 n1 us ub uu c0 cb cu hl h) q3
    obtain ⟨B, m, d, bs, rfl, hB, hbl⟩ := bytes_in ub uu cu q5
    simp at e0 e1 e2 e4
    subst e0 e1 e2 e4
    refine ⟨⟨⟨z0, bounds_i64 b0⟩, ⟨z1, bounds_i64 b1⟩, ⟨z2, bounds_i64 b2⟩, ws, ⟨z4, bounds_i64 b4⟩, bs⟩, ⟨A, n1', c1', B, m, d, rfl, hA, hB⟩, ?_⟩
    rw [hxy]
    simp only [Rows.uptoBulk, List.map_cons, List.map_nil, Rows.uptoBulkAll, cmw, wsz_sum]
    omega
theorem sum_mem {α : Type} (μ : α → Nat) {x : α} : ∀ {l : List α}, x ∈ l → μ x ≤ (l.map μ).sum
  | y :: l, h => by
    rcases List.mem_cons.1 h with rfl | h
    · simp
    · have := sum_mem μ h
      simp
      omega
end
section
variable {H : Type} {enc : TypeId × Value → H} {W : World}
theorem cmds_in {a : Option Addr} {len cap : Nat} {d : DataW H} {pl : List MemPlace} (h : DataW.Trod enc Tryd.prog W 0 (fun _ => true) true 22 (.slice a len cap) d pl) (hb : Rows.uptoBulk d ≤ 1048576) : ∃ l, RdE lCm W (fun _ => True) a len cap l ∧ ∀ x ∈ l, Sy.csz x ≤ 30000000 := by
  obtain ⟨fuel, hf⟩ := h
  obtain ⟨A, n, k, l, hv, hr, -, hs⟩ := rde_in lCm cmw 7 Tryd.underlying22 (by kernel_rfl) (fun n cs y hl h => command_in Tryd.underlying39 rfl rfl rfl rfl rfl rfl rfl rfl rfl rfl rfl rfl rfl rfl rfl rfl rfl rfl rfl Tryd.underlying3 Tryd.underlying37 Tryd.underlying23 Tryd.underlying5 (by kernel_rfl) (by kernel_rfl) (by kernel_rfl) (by kernel_rfl) Tryd.underlying50 (by kernel_rfl) rfl rfl rfl rfl rfl rfl rfl Tryd.underlying9 (by kernel_rfl) hl h) hf
  cases hv
  refine ⟨l, hr, fun x hx => ?_⟩
  have := sum_mem cmw hx
  simp only [cmw, Sy.csz] at *
  omega
theorem digs_in {a : Option Addr} {len cap : Nat} {d : DataW H} {pl : List MemPlace} (h : DataW.Trod enc Tryd.prog W 0 (fun _ => true) true 33 (.slice a len cap) d pl) (hb : Rows.uptoBulk d ≤ 1048576) : ∃ l, RdE lDg W (fun _ => True) a len cap l ∧ len ≤ 1048576 ∧ ∀ x ∈ l, x.pre.length ≤ 1048576 := by
  obtain ⟨fuel, hf⟩ := h
  obtain ⟨A, n, k, l, hv, hr, hn, hs⟩ := rde_in lDg (fun x => x.pre.length) 1 Tryd.underlying33 (by kernel_rfl) (fun n cs y hl h => by
    match cs, hl with
    | [v0, v1, v2], _ =>
      obtain ⟨x, A, n, c, B, m, k, rfl, rfl, rfl, hA, hB, hl⟩ := digest_in Tryd.underlying30 rfl rfl rfl rfl rfl rfl rfl rfl rfl rfl Tryd.underlying23 Tryd.underlying5 Tryd.underlying3 (by kernel_rfl) (by kernel_rfl) (by kernel_rfl) h
      exact ⟨x, ⟨A, n, c, B, m, k, rfl, hA, hB⟩, by simp; omega⟩) hf
  cases hv
  refine ⟨l, hr, by simp at hn; omega, fun x hx => ?_⟩
  have := sum_mem (fun x : Sy.Dg => x.pre.length) hx
  simp only [Nat.one_mul] at hs
  omega
theorem bts_in {a : Option Addr} {len cap : Nat} {d : DataW H} {pl : List MemPlace} (h : DataW.Trod enc Tryd.prog W 0 (fun _ => true) true 23 (.slice a len cap) d pl) (hb : Rows.uptoBulk d ≤ 1048576) : ∃ l, Rd W (fun _ => True) a len cap l ∧ len ≤ 1048576 := by
  obtain ⟨fuel, hf⟩ := h
  obtain ⟨A, n, c, bs, hv, hr, hl⟩ := bytes_in Tryd.underlying23 Tryd.underlying5 (by kernel_rfl) hf
  cases hv
  have := hr.len
  exact ⟨bs, hr, by simp at hl; omega⟩
end
end Go.Proofs.YtajohibeoicepaaDoor

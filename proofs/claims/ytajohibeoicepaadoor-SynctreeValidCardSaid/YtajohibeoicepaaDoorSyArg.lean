/-
  Commands and digests that came in, and what bounds them.
-/
import Derived.Test.YtajohibeoicepaaDoorArg
import Derived.Test.YtajohibeoicepaaDoorSyAt
import Derived.Test.YtajohibeoicepaaDoorCards
import Derived.Test.YtajohibeoicepaaDoorTie
import Derived.ChangeSlices
import Derived.Deep.Slices
namespace Go.Proofs.YtajohibeoicepaaDoor
open Go.ChangeShapes Go.WideShapes Go.ChangeAt Go.RowKit Go.Pl
theorem blk_one_le {H : Type} (d : DataW H) : 1 ≤ Rows.uptoBulk d := by
  cases d with
  | lit l => cases l <;> simp [Rows.uptoBulk]
  | nil => simp [Rows.uptoBulk]
  | ptr d => simp [Rows.uptoBulk]
  | slice elems spare => simp [Rows.uptoBulk]
  | agg parts => simp [Rows.uptoBulk]
  | iface t d => simp [Rows.uptoBulk]
  | map entries => simp [Rows.uptoBulk]
  | held h => simp [Rows.uptoBulk]
theorem blk_append {H : Type} (l r : List (DataW H)) : Rows.uptoBulkAll (l ++ r) = Rows.uptoBulkAll l + Rows.uptoBulkAll r := by
  induction l with
  | nil => simp [Rows.uptoBulkAll]
  | cons x l ih => simp only [List.cons_append, Rows.uptoBulkAll, ih]; omega
theorem blk_len {H : Type} (l : List (DataW H)) : l.length ≤ Rows.uptoBulkAll l := by
  induction l with
  | nil => simp [Rows.uptoBulkAll]
  | cons x r ih => have := blk_one_le x; simp only [Rows.uptoBulkAll, List.length_cons]; omega
section
variable {H : Type} {enc : TypeId × Value → H} {P : Program} {W : World}
/-- Bytes that came in. -/
theorem bytes_in {t e : TypeId} {v : Value} {d : DataW H × List MemPlace} {fuel : Nat} (ht : P.underlying t = some (.slice e)) (he : P.underlying e = some (.int .u8)) (hc : P.cellsOf e = 1)
    (h : DataW.trod enc P W 0 (fun _ => true) true fuel t [v] = some d) : ∃ A n c bs, v = .slice A n c ∧ Rd W (fun _ => True) A n c bs ∧ bs.length < Rows.uptoBulk d.1 := by
  rcases open_ints ht he hc h with ⟨hcs, hd⟩ | ⟨x, l, c, zs, hcs, _, hl, hm, hz, hd, hcell, hwz⟩
  · simp at hcs
    subst hcs
    exact ⟨none, 0, 0, [], rfl, ⟨rfl, Nat.le_refl _, by simp [maxLen], fun _ => rfl, fun h => by omega⟩, by have := blk_one_le d.1; simp; omega⟩
  · simp at hcs
    subst hcs
    obtain ⟨bs, hb⟩ := rd_of_row (show IsRow .u8 W (some x) l c zs from .inr ⟨_, rfl, hl, hm, by simpa using hz, hcell, hwz⟩)
    refine ⟨_, _, _, bs, rfl, hb, ?_⟩
    rw [hd, Rows.uptoBulk]
    have h1 := blk_len (lits .u8 (zs.take l) : List (DataW H))
    have h2 := hb.len
    have hzl : zs.length = c := by simpa using hz
    simp [lits] at h1 ⊢
    omega
theorem digest_in {e tp ti tu : TypeId} {fs : Array Field} {f0 f1 f2 : Field} {fuel : Nat} {v0 v1 v2 : Value} {y : DataW H × List MemPlace} (he : P.underlying e = some (.struct fs))
    (g0 : fs[0]? = some f0) (g1 : fs[1]? = some f1) (g2 : fs[2]? = some f2) (hsz : fs.size = 3) (o0 : f0.offset = 0) (o1 : f1.offset = 1) (o2 : f2.offset = 2) (t0 : f0.type = tp) (t1 : f1.type = tp) (t2 : f2.type = ti)
    (up : P.underlying tp = some (.slice tu)) (uu : P.underlying tu = some (.int .u8)) (ui : P.underlying ti = some (.int .i64)) (cp : P.cellsOf tp = 1) (cu : P.cellsOf tu = 1) (ci : P.cellsOf ti = 1)
    (h : DataW.trod enc P W 0 (fun _ => true) true fuel e [v0, v1, v2] = some y) :
    ∃ (x : Sy.Dg) (A : Option Addr) (n c : Nat) (B : Option Addr) (m k : Nat), v0 = .slice A n c ∧ v1 = .slice B m k ∧ v2 = .int .i64 x.count ∧ Rd W (fun _ => True) A n c x.pre ∧ Rd W (fun _ => True) B m k x.sum ∧ x.pre.length < Rows.uptoBulk y.1 := by
  obtain ⟨xs, n, hn, hxy, _, hxl, hfd⟩ := DataW.trod_struct he h
  rw [hsz] at hxl
  match xs, hxl with
  | [y0, y1, y2], _ =>
    have q0 := hfd 0 f0 g0
    have q1 := hfd 1 f1 g1
    have q2 := hfd 2 f2 g2
    simp [o0, o1, o2, t0, t1, t2, cp, ci] at q0 q1 q2
    obtain ⟨A, n, c, bs, rfl, hA, hl⟩ := bytes_in up uu cu q0
    obtain ⟨B, m, k, cs, rfl, hB, -⟩ := bytes_in up uu cu q1
    obtain ⟨z, e2, _, _⟩ := DataW.trod_int ui q2
    simp at e2
    subst e2
    refine ⟨⟨bs, cs, z⟩, A, n, c, B, m, k, rfl, rfl, rfl, hA, hB, ?_⟩
    rw [hxy]
    simp only [Rows.uptoBulk, List.map_cons, List.map_nil, Rows.uptoBulkAll]
    show bs.length < _
    omega
theorem digest_of_trod {e tp ti tu : TypeId} {fs : Array Field} {f0 f1 f2 : Field} {cs : Array Value} {d : DataW H} {pl : List MemPlace} (he : P.underlying e = some (.struct fs)) (ce : P.cellsOf e = 3)
    (g0 : fs[0]? = some f0) (g1 : fs[1]? = some f1) (g2 : fs[2]? = some f2) (hsz : fs.size = 3) (o0 : f0.offset = 0) (o1 : f1.offset = 1) (o2 : f2.offset = 2) (t0 : f0.type = tp) (t1 : f1.type = tp) (t2 : f2.type = ti)
    (up : P.underlying tp = some (.slice tu)) (uu : P.underlying tu = some (.int .u8)) (ui : P.underlying ti = some (.int .i64)) (cp : P.cellsOf tp = 1) (cu : P.cellsOf tu = 1) (ci : P.cellsOf ti = 1)
    (hcs : cs.size = P.cellsOf e) (h : DataW.Trod enc P W 0 (fun _ => true) true e (.agg cs) d pl) :
    ∃ (x : Sy.Dg) (A : Option Addr) (n c : Nat) (B : Option Addr) (m k : Nat), cs = #[.slice A n c, .slice B m k, .int .i64 x.count] ∧ Rd W (fun _ => True) A n c x.pre ∧ Rd W (fun _ => True) B m k x.sum := by
  rw [ce] at hcs
  obtain ⟨fuel, hf⟩ := h
  obtain ⟨l⟩ := cs
  match l, hcs with
  | [v0, v1, v2], _ =>
    obtain ⟨x, A, n, c, B, m, k, rfl, rfl, rfl, hA, hB, -⟩ := digest_in he g0 g1 g2 hsz o0 o1 o2 t0 t1 t2 up uu ui cp cu ci hf
    exact ⟨x, A, n, c, B, m, k, rfl, hA, hB⟩
end
end Go.Proofs.YtajohibeoicepaaDoor

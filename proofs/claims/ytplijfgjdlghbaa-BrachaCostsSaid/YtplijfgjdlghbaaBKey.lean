/-
  The names of broadcasts as keys of a map.
-/
import Derived.Test.YtplijfgjdlghbaaBIn
import Derived.Test.YtplijfgjdlghbaaOrdT
import Derived.Deep.Cut
namespace Go.Proofs.Ytplijfgjdlghbaa
open Go.RowKit Go.Pl
theorem idLaid : laidOutB Try.prog = true := by kernel_rfl
theorem idKey : Try.prog.keyType 73 = true := by kernel_rfl
theorem idCells : Try.prog.cellsOf 73 = 2 := by kernel_rfl
theorem intCells : Try.prog.cellsOf 3 = 1 := by kernel_rfl
theorem idWide : (match Try.prog.underlying 73 with | some (.array _ _) | some (.struct _) => true | _ => false) = true := by rw [Try.underlying73]
theorem idLaw : Maps.Keyed Try.prog 73 := Maps.Keyed.of_law (deep_law_laid idLaid (m := 2) (by omega) (of_decide_eq_true (by kernel_rfl)) (by kernel_rfl) idWide)
theorem idKeyOf (o k : Int) (ho : I64 o) (hk : I64 k) : ∃ x, keyOf Try.prog 73 (idv o k) = some x := by
  have hfm : (idv o k).formed Try.prog 73 = true := by simp [Value.formed, idv, Try.underlying73, idCells]
  have hpos : 0 < Try.prog.types.size := of_decide_eq_true (by kernel_rfl)
  obtain ⟨m, hm⟩ := Nat.exists_eq_add_of_lt hpos
  have w1 : (Lit.int .i64 o).wf = true := WalkArith.wf_i64 ho
  have w2 : (Lit.int .i64 k).wf = true := WalkArith.wf_i64 hk
  have key : ∃ ls, Try.prog.keyLits (Try.prog.types.size + 1) 73 (idv o k).cells.toList = some ls := by
    rw [hm]
    refine ⟨[.int .i64 o, .int .i64 k], ?_⟩
    simp [Program.keyLits, idv, Value.cells, Try.underlying73, Try.underlying3, idCells, intCells, w1, w2]
  obtain ⟨ls, hls⟩ := key
  refine ⟨.string (keyBytes ls), ?_⟩
  unfold keyOf
  rw [Try.underlying73]
  simp only [idKey, hfm, Bool.and_self, if_true, hls, Option.map_some]
theorem eq_nil_ptr (w : World) (a : Option Addr) : (binOp .eql 75 (.pointer a) (.pointer none)).run Try.prog w = .ok (.bool a.isNone) w := by
  cases a <;> kernel_rfl
theorem _root_.Go.Pl.MapIs.inj {w : World} {b : Nat} {l : List (Value × Value)} (h : MapIs w b l) {i j : Nat} {key v v' : Value} (hi : l[i]? = some (key, v)) (hj : l[j]? = some (key, v')) : i = j := by
  obtain ⟨es, clock, _, hst, rfl⟩ := h
  have hp := ((MapKept.stamped_iff es clock).1 hst).2.2
  rw [List.getElem?_map] at hi hj
  obtain ⟨x, hx, ex⟩ := Option.map_eq_some_iff.1 hi
  obtain ⟨y, hy, ey⟩ := Option.map_eq_some_iff.1 hj
  have kx : x.key = key := congrArg Prod.fst ex
  have ky : y.key = key := congrArg Prod.fst ey
  obtain ⟨hil, rfl⟩ := List.getElem?_eq_some_iff.1 hx
  obtain ⟨hjl, rfl⟩ := List.getElem?_eq_some_iff.1 hy
  rcases Nat.lt_trichotomy i j with h | h | h
  · exact absurd (kx.trans ky.symm) (List.pairwise_iff_getElem.1 hp i j hil hjl h)
  · exact h
  · exact absurd (ky.trans kx.symm) (List.pairwise_iff_getElem.1 hp j i hjl hil h)
theorem look_cast {w : World} {L : Nat → Lab} {G : Nat} {p : Bra.Proc} {M : Nat} {A : Option Addr} {nd cd : Nat} {lm : List (Value × Value)} {vs : List Value} (h : ProcIn w L G p M A nd cd lm vs) {o k : Int} (ho : I64 o) (hk : I64 k) :
    ∃ a : Option Addr, (Instr.lookup 67 (.map (some M)) (idv o k) false).run Try.prog w = .ok (.pointer a) w ∧
      ((a = none ∧ p.casts.any (·.is o k) = false ∧ ∀ q ∈ lm, q.1 ≠ idv o k) ∨ (∃ sb, a = some ⟨sb, 0, none⟩ ∧ p.casts.any (·.is o k) = true ∧ lm[Bra.at_ p.casts o k]? = some (idv o k, .pointer (some ⟨sb, 0, none⟩)))) := by
  obtain ⟨kl, hkl⟩ := idKeyOf o k ho hk
  rcases h.map.look (P := Try.prog) idLaw (h.casts.keys (fun a b ha hb => idKeyOf a b ha hb)) Try.underlying67 hkl false with ⟨j, v, hj, hrun⟩ | ⟨hno, hz⟩
  · have hjl : j < p.casts.length := by rw [← h.casts.len]; exact (List.getElem?_eq_some_iff.1 hj).1
    obtain ⟨sb, h1, -, -, -⟩ := h.casts.get (List.getElem?_eq_getElem hjl)
    rw [hj] at h1
    have e1 : idv o k = idv p.casts[j].origin p.casts[j].number ∧ v = .pointer (some ⟨sb, 0, none⟩) := by simpa using h1
    obtain ⟨e2, rfl⟩ := e1
    obtain ⟨e3, e4⟩ := idv_inj e2
    have hany : p.casts.any (·.is o k) = true := List.any_eq_true.2 ⟨p.casts[j], List.getElem_mem _, Bra.is_iff.2 ⟨e3.symm, e4.symm⟩⟩
    have hx := Bra.ensure_at p.casts o k
    have he : Bra.ensure p.casts o k = p.casts := by unfold Bra.ensure; rw [if_pos hany]
    rw [he] at hx
    have hc := Bra.is_iff.1 (Bra.look_is p.casts o k)
    obtain ⟨sb', h2, -, -, -⟩ := h.casts.get hx
    rw [hc.1, hc.2] at h2
    have hij := h.map.inj hj h2
    rw [← hij] at h2 ⊢
    exact ⟨_, hrun, .inr ⟨sb, rfl, hany, hj⟩⟩
  · refine ⟨none, hz _ (by kernel_rfl), .inl ⟨rfl, ?_, hno⟩⟩
    cases hany : p.casts.any (·.is o k) with
    | false => rfl
    | true =>
      exfalso
      obtain ⟨c, hc, hci⟩ := List.any_eq_true.1 hany
      obtain ⟨j, hj⟩ := List.getElem?_of_mem hc
      obtain ⟨sb', h2, -, -, -⟩ := h.casts.get hj
      obtain ⟨e1, e2⟩ := Bra.is_iff.1 hci
      exact hno _ (List.mem_of_getElem? h2) (by rw [e1, e2])
theorem size_setCell (w : World) (p : Addr) (v : Value) : (w.setCell p v).heap.size = w.heap.size := by simp [World.setCell]
theorem size_alloc1 (w : World) (o : Obj) : (w.alloc o).heap.size = w.heap.size + 1 := by simp
theorem infoDel : (Try.prog.info? 56).map (fun i => (i.zero, i.size, i.bytes)) = some (some (.agg #[.int .i64 0, .int .i64 0, .slice none 0 0]), 3, 40) := by kernel_rfl
/-- New blocks are labelled as bytes. -/
theorem lab_ext (L1 : Nat → Lab) (a b : Nat) (h : ∀ i, L1 i ≠ .no → i < a) (hab : a ≤ b) : ∃ L2 : Nat → Lab, (∀ i, L1 i ≠ .no → L2 i = L1 i) ∧ (∀ i, a ≤ i → i < b → L2 i = .byt) ∧ (∀ i, L2 i ≠ .no → i < b) ∧ (∀ i, i < a → L2 i = L1 i) := by
  refine ⟨fun i => if a ≤ i ∧ i < b then .byt else L1 i, fun i hi => ?_, fun i h1 h2 => ?_, fun i hi => ?_, fun i hi => ?_⟩
  · have := h i hi
    dsimp only
    rw [if_neg (by omega)]
  · dsimp only
    rw [if_pos ⟨h1, h2⟩]
  · by_cases hx : a ≤ i ∧ i < b
    · exact hx.2
    · dsimp only at hi
      rw [if_neg hx] at hi
      have := h i hi
      omega
  · dsimp only
    rw [if_neg (by omega)]
theorem few_of : ∀ (n : Nat) (l : List Int), l.Nodup → (∀ x ∈ l, 0 ≤ x ∧ x < n) → l.length ≤ n
  | 0, l, _, h => by
    cases l with
    | nil => simp
    | cons x r => have := h x (by simp); omega
  | n + 1, l, hn, h => by
    by_cases hm : (n : Int) ∈ l
    · have h1 := few_of n (l.erase (n : Int)) (hn.erase _) (fun x hx => by
        obtain ⟨hne, hx'⟩ := (hn.mem_erase_iff).1 hx
        have := h x hx'
        omega)
      rw [List.length_erase_of_mem hm] at h1
      omega
    · have := few_of n l hn (fun x hx => by
        have h1 := h x hx
        have h2 : x ≠ n := fun e => hm (e ▸ hx)
        omega)
      omega
theorem votes_nodup {w : World} {S : Nat → Prop} : ∀ {v : Bra.Votes} {l : List (Value × Value)}, VotesIs w S v l → l.map (·.1) = v.map (fun x => .int .i64 x.1) ∧ ∀ x ∈ v.map (·.1), 0 ≤ x ∧ x < 64
  | [], _, h => by cases h; exact ⟨rfl, by simp⟩
  | x :: r, _, ⟨s, l', h1, h0, h2, h3⟩ => by
    obtain ⟨e1, e2⟩ := votes_nodup h3
    refine ⟨by rw [h1, List.map_cons, List.map_cons, e1], fun y hy => ?_⟩
    rcases List.mem_cons.1 (by simpa using hy : y ∈ x.1 :: r.map (·.1)) with rfl | hy
    · exact h0
    · exact e2 y hy
theorem votes_few {w : World} {S : Nat → Prop} {b : Nat} {v : Bra.Votes} {l : List (Value × Value)} (hm : MapIs w b l) (hv : VotesIs w S v l) : v.length ≤ 64 := by
  obtain ⟨e1, e2⟩ := votes_nodup hv
  obtain ⟨es, clock, _, hst, rfl⟩ := hm
  have hp := ((MapKept.stamped_iff es clock).1 hst).2.2
  have hn : (v.map (fun x => Value.int .i64 x.1)).Nodup := by
    rw [← e1, List.map_map]
    unfold List.Nodup
    rw [List.pairwise_map]
    exact hp
  have hn2 : (v.map (·.1)).Nodup := by
    unfold List.Nodup at hn ⊢
    rw [List.pairwise_map] at hn ⊢
    exact hn.imp (fun h e => h (by rw [e]))
  have := few_of 64 _ hn2 e2
  simpa using this
theorem ensure_none {cs : List Bra.Cast} {o k : Int} (h : cs.any (·.is o k) = false) : Bra.ensure cs o k = cs ++ [Bra.fresh o k] ∧ Bra.at_ cs o k = cs.length := by
  have hn : ∀ x ∈ cs, (x.is o k) = false := by simpa using h
  refine ⟨by unfold Bra.ensure; rw [if_neg (by rw [h]; simp)], List.findIdx_eq_length_of_false hn⟩
theorem ensure_some {cs : List Bra.Cast} {o k : Int} (h : cs.any (·.is o k) = true) : Bra.ensure cs o k = cs := by
  unfold Bra.ensure
  rw [if_pos h]
end Go.Proofs.Ytplijfgjdlghbaa

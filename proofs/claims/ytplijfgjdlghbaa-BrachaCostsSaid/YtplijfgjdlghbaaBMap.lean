/-
  Maps known by their entries, in the order in which they were laid; over whatever program.
-/
import Derived.Test.YtplijfgjdlghbaaLaw
import Derived.Maps.Range
import Derived.WideKeyArgs
import Derived.DeepKeys4
namespace Go.Pl
open Go.ChangeMaps Go.MapKept Go.ChangeShapes Go.WideShapes Go.RowKit
open Go.Maps (Keyed)
/-- Block b is a map with the entries l. -/
def MapIs (w : World) (b : Nat) (l : List (Value × Value)) : Prop :=
  ∃ es clock, w.heap[b]? = some (.map es clock) ∧ Stamped es clock ∧ es.toList.map (fun e => (e.key, e.val)) = l
/-- Block r is an iterator over the map in block b, with the entries l, of which todo are still to come. -/
def IterIs (w : World) (b r : Nat) (l todo : List (Value × Value)) : Prop :=
  ∃ es clock since seen c0, w.heap[b]? = some (.map es clock) ∧ Stamped es clock ∧ es.toList.map (fun e => (e.key, e.val)) = l ∧
    w.heap[r]? = some (.mapIter (some b) since seen c0) ∧ (∀ x ∈ es.toList, x.born < since) ∧ since ≤ c0 ∧ since ≤ clock ∧ ((leftOf es seen).toList.map (fun e => (e.key, e.val))).Perm todo
section
variable {w w' : World} {b r : Nat} {l todo : List (Value × Value)} {P : Program} {k e t : TypeId}
theorem MapIs.lt (h : MapIs w b l) : b < w.heap.size := by
  obtain ⟨es, clock, hb, _⟩ := h
  exact (Array.getElem?_eq_some_iff.1 hb).1
theorem MapIs.of_block (h : MapIs w b l) (he : w'.heap[b]? = w.heap[b]?) : MapIs w' b l := by
  obtain ⟨es, clock, hb, r⟩ := h
  exact ⟨es, clock, he.trans hb, r⟩
theorem MapIs.fr {F : Nat → Prop} (h : MapIs w b l) (hf : Fr F w w') (hn : ¬ F b) : MapIs w' b l := h.of_block (hf.block b h.lt hn)
theorem MapIs.below {B : Nat} (h : MapIs w b l) (hf : Below B w w') (hn : b < B) : MapIs w' b l := h.of_block (hf.block b hn)
theorem MapIs.drew (h : MapIs w b l) : MapIs w.drew b l := h
theorem MapIs.alloc (h : MapIs w b l) (o : Obj) : MapIs (w.alloc o) b l := h.of_block (Below.heap_alloc w o b h.lt)
theorem MapIs.setCell (h : MapIs w b l) {p : Addr} (hp : b ≠ p.block) (u : Value) : MapIs (w.setCell p u) b l := h.of_block (Below.heap_setCell w p u b hp)
theorem MapIs.new (w : World) : MapIs (w.alloc (.map #[] 0)) w.heap.size [] := ⟨#[], 0, heap_alloc_new w _, stamped_empty 0, rfl⟩
theorem MapIs.ne_blk {g : Nat} {ty : TypeId} {cs : Array Value} (h : MapIs w b l) (hg : Blk w g ty cs) : b ≠ g := by
  rintro rfl
  obtain ⟨es, clock, hb, _⟩ := h
  unfold Blk at hg
  rw [hb] at hg
  cases hg
/-- What stands at a key. -/
theorem MapIs.look (h : MapIs w b l) (K : Keyed P k) (hk : ∀ p ∈ l, ∃ x, keyOf P k p.1 = some x) (ht : P.underlying t = some (.map k e)) {key : Value} {kl : Lit} (hkey : keyOf P k key = some kl) (c : Bool) :
    (∃ (j : Nat) (v : Value), l[j]? = some (key, v) ∧ (Instr.lookup t (.map (some b)) key c).run P w = .ok (if c then .tuple #[v, .bool true] else v) w) ∨
    ((∀ p ∈ l, p.1 ≠ key) ∧ ∀ z, (zeroValue e).run P w = .ok z w → (Instr.lookup t (.map (some b)) key c).run P w = .ok (if c then .tuple #[z, .bool false] else z) w) := by
  obtain ⟨es, clock, hb, hst, rfl⟩ := h
  have hks : ∀ x ∈ es.toList, ∃ y, keyOf P k x.key = some y := fun x hx => hk _ (List.mem_map.2 ⟨x, hx, rfl⟩)
  rcases K.find w hkey es.toList hks with ⟨h1, h2⟩ | ⟨j, e0, h1, h2, h3⟩
  · refine .inr ⟨fun p hp => ?_, fun z hz => by simp [Instr.lookup, run_underlying ht, MapKept.run_getObj_map hb, K.check w _ hkey, h1, hz, Result.andThen]⟩
    obtain ⟨x, hx, rfl⟩ := List.mem_map.1 hp
    exact h2 x hx
  · refine .inl ⟨j, e0.val, by rw [List.getElem?_map, h2]; simp [h3], by simp [Instr.lookup, run_underlying ht, MapKept.run_getObj_map hb, K.check w _ hkey, h1, Result.andThen]⟩
/-- A store at a key that is not there. -/
theorem MapIs.push (h : MapIs w b l) (K : Keyed P k) (hk : ∀ p ∈ l, ∃ x, keyOf P k p.1 = some x) (ht : P.underlying t = some (.map k e)) {key val : Value} {kl : Lit} (hkey : keyOf P k key = some kl) (hno : ∀ p ∈ l, p.1 ≠ key) :
    ∃ w', (Instr.mapUpdate t (.map (some b)) key val).run P w = .ok () w' ∧ MapIs w' b (l ++ [(key, val)]) ∧ w.grownBy w' (some b) := by
  obtain ⟨es, clock, hb, hst, rfl⟩ := h
  have hks : ∀ x ∈ es.toList, ∃ y, keyOf P k x.key = some y := fun x hx => hk _ (List.mem_map.2 ⟨x, hx, rfl⟩)
  rcases K.find w hkey es.toList hks with ⟨h1, h2⟩ | ⟨j, e0, h1, h2, h3⟩
  · refine ⟨setBlock w b (.map (es.push ⟨key, val, clock⟩) (clock + 1)), ?_, ⟨_, _, heap_setBlock_same hb _, stamped_push hst h2, by simp⟩, ⟨rfl, rfl, rfl, by simp [setBlock], fun i _ hi => heap_setBlock_other hb _ (fun e => hi (by rw [e]))⟩⟩
    simp [Instr.mapUpdate, run_underlying ht, MapKept.run_getObj_map hb, K.check w false hkey, h1, MapKept.run_setObj_map _ hb, Result.andThen, setBlock]
  · exact absurd h3 (hno (e0.key, e0.val) (List.mem_map.2 ⟨e0, List.mem_of_getElem? h2, rfl⟩))
/-- 'range m'. -/
theorem MapIs.range (h : MapIs w b l) (ht : P.underlying t = some (.map k e)) :
    ∃ w', (Instr.range t (.map (some b))).run P w = .ok (.pointer (some ⟨w.heap.size, 0, none⟩)) w' ∧ IterIs w' b w.heap.size l l ∧ w.grownBy w' none ∧ w'.heap.size = w.heap.size + 1 := by
  have hlt := h.lt
  obtain ⟨es, clock, hb, hst, rfl⟩ := h
  refine ⟨_, run_range_map w t k e b es clock ht hb, ⟨es, clock, clock, #[], clock, ((MapKept.heap_alloc w _).2 b hlt).trans hb, hst, rfl, (MapKept.heap_alloc w _).1, hst.1, Nat.le_refl _, Nat.le_refl _, ?_⟩, World.grownBy_alloc w _ none, by simp⟩
  have : leftOf es #[] = es := by simp [leftOf]
  rw [this]
theorem IterIs.map (h : IterIs w b r l todo) : MapIs w b l := by
  obtain ⟨es, clock, since, seen, c0, hb, hst, hl, _⟩ := h
  exact ⟨es, clock, hb, hst, hl⟩
theorem IterIs.lt (h : IterIs w b r l todo) : r < w.heap.size := by
  obtain ⟨es, clock, since, seen, c0, _, _, _, hr, _⟩ := h
  exact (Array.getElem?_eq_some_iff.1 hr).1
theorem IterIs.ne (h : IterIs w b r l todo) : r ≠ b := by
  obtain ⟨es, clock, since, seen, c0, hb, _, _, hr, _⟩ := h
  intro e
  rw [e, hb] at hr
  cases hr
theorem IterIs.of_blocks (h : IterIs w b r l todo) (he : w'.heap[b]? = w.heap[b]?) (hr : w'.heap[r]? = w.heap[r]?) : IterIs w' b r l todo := by
  obtain ⟨es, clock, since, seen, c0, h1, h2, h3, h4, h5⟩ := h
  exact ⟨es, clock, since, seen, c0, he.trans h1, h2, h3, hr.trans h4, h5⟩
theorem perm_of_born {es : List MapEntry} {seen : Array Nat} {e : MapEntry} (hn : (es.map (·.born)).Nodup) (he : e ∈ es) (hs : seen.contains e.born = false) :
    (es.filter fun x => !seen.contains x.born).Perm (e :: es.filter fun x => !(seen.push e.born).contains x.born) := by
  induction es with
  | nil => cases he
  | cons a r ih =>
    simp only [List.map_cons, List.nodup_cons] at hn
    rcases List.mem_cons.1 he with rfl | he'
    · have e1 : (r.filter fun x => !(seen.push e.born).contains x.born) = r.filter fun x => !seen.contains x.born := by
        refine List.filter_congr fun x hx => ?_
        rw [contains_push]
        have : (x.born == e.born) = false := by
          simp only [beq_eq_false_iff_ne]
          intro h
          exact hn.1 (List.mem_map.2 ⟨x, hx, h⟩)
        rw [this, Bool.or_false]
      have e2 : (seen.push e.born).contains e.born = true := by rw [contains_push]; simp
      rw [List.filter_cons, List.filter_cons, hs, e2, e1]
      exact List.Perm.refl _
    · have h1 := ih hn.2 he'
      have hb : (a.born == e.born) = false := by
        simp only [beq_eq_false_iff_ne]
        intro h
        exact hn.1 (List.mem_map.2 ⟨e, he', h.symm⟩)
      have e2 : (seen.push e.born).contains a.born = seen.contains a.born := by rw [contains_push, hb, Bool.or_false]
      rw [List.filter_cons, List.filter_cons, e2]
      cases hc : seen.contains a.born
      · exact ((h1.cons a).trans (List.Perm.swap _ _ _))
      · exact h1
/-- The loop's step. -/
theorem IterIs.next (h : IterIs w b r l todo) (ty : TypeId) :
    (todo = [] ∧ (Instr.next (.pointer (some ⟨r, 0, none⟩)) false ty).run P w = .ok (.tuple #[.bool false]) w) ∨
    ∃ key val rest w', todo.Perm ((key, val) :: rest) ∧ (key, val) ∈ l ∧ (Instr.next (.pointer (some ⟨r, 0, none⟩)) false ty).run P w = .ok (.tuple #[.bool true, key, val]) w' ∧ IterIs w' b r l rest ∧
      w.grownBy w' (some r) ∧ w'.heap.size = w.heap.size ∧ (Instr.entry (.pointer (some ⟨r, 0, none⟩))).run P w' = .ok (.tuple #[key, val]) w' := by
  have hne := h.ne
  obtain ⟨es, clock, since, seen, c0, hb, hst, hl, hr, hold, hsc, hsk, hp⟩ := h
  rcases run_next_at (P := P) w ty r b since c0 seen es clock hr hb hold hsc with ⟨h0, hrun⟩ | ⟨e, he, w1, hal, hrun⟩
  · refine .inl ⟨?_, hrun⟩
    have : leftOf es seen = #[] := Array.eq_empty_of_size_eq_zero h0
    rw [this] at hp
    simpa using hp
  · obtain ⟨hem, hes⟩ := mem_left he
    have hr1 : w1.heap[r]? = some (.mapIter (some b) since seen c0) := by rcases hal with rfl | rfl <;> exact hr
    have hb1 : w1.heap[b]? = some (.map es clock) := by rcases hal with rfl | rfl <;> exact hb
    have hset := heap_set (o' := .mapIter (some b) since (seen.push e.born) clock) hr1
    have hb' : (setBlock w1 r (.mapIter (some b) since (seen.push e.born) clock)).heap[b]? = some (.map es clock) := (hset.2 b (fun e1 => hne e1.symm)).trans hb1
    have hn := ((stamped_iff es clock).1 hst).2.1
    have hpm := perm_of_born hn hem hes
    have e1 : ∀ s, (leftOf es s).toList = es.toList.filter fun x => !s.contains x.born := fun s => by simp [leftOf]
    rw [e1] at hp
    refine .inr ⟨e.key, e.val, (leftOf es (seen.push e.born)).toList.map (fun e => (e.key, e.val)), _, ?_, ?_, hrun, ⟨es, clock, since, seen.push e.born, clock, hb', hst, hl, hset.1, hold, hsk, hsk, List.Perm.refl _⟩, ?_, ?_, run_entry_at _ r b since seen es clock e hset.1 hb' hem hn⟩
    · rw [e1]
      exact hp.symm.trans (hpm.map _)
    · rw [← hl]
      exact List.mem_map.2 ⟨e, hem, rfl⟩
    · rcases hal with rfl | rfl <;> exact ⟨rfl, rfl, rfl, by simp [setBlock], fun i _ hi => hset.2 i (fun e1 => hi (by rw [e1]))⟩
    · rcases hal with rfl | rfl <;> simp [setBlock]
/-- What is left, read off the world: for a loop's measure. -/
theorem IterIs.left_eq (h : IterIs w b r l todo) : w.rangeLeft b r = todo.length := by
  obtain ⟨es, clock, since, seen, c0, hb, hst, hl, hr, hold, hsc, hsk, hp⟩ := h
  simp only [World.rangeLeft, hb, hr]
  rw [← hp.length_eq]
  simp
end
section
variable {P : Program} {ops : Array Oper} {rest : List Oper} {o : Oper} {a : Act} {Q : Exit → Act → World → Prop} {w : World} {b r : Nat} {l todo : List (Value × Value)}
theorem wpl_range (hgd : o.guard = none) (m : Operand) (t : TypeId) (hop : o.op = Op.range t m) (k e : TypeId) (ht : P.underlying t = some (.map k e)) (hm : a.eval m = .map (some b)) (h : MapIs w b l)
    (hK : ∀ w', IterIs w' b w.heap.size l l → w.grownBy w' none → w'.heap.size = w.heap.size + 1 → wpList P ops Q rest (a.put o.dst (.pointer (some ⟨w.heap.size, 0, none⟩))) w') : wpList P ops Q (o :: rest) a w := by
  refine wpList_plain hgd fun K' hK' => ?_
  obtain ⟨w', hrun, r1, r2, r3⟩ := h.range (P := P) ht
  unfold Oper.wp
  simp [execOp, hop, hm, hrun, Result.andThen]
  exact hK' _ _ (hK w' r1 r2 r3)
theorem wpl_next (hgd : o.guard = none) (it : Operand) (hop : o.op = Op.next it false) (hit : a.eval it = .pointer (some ⟨r, 0, none⟩)) (h : IterIs w b r l todo)
    (hDone : todo = [] → wpList P ops Q rest (a.put o.dst (.tuple #[.bool false])) w)
    (hMore : ∀ key val rest' w', todo.Perm ((key, val) :: rest') → (key, val) ∈ l → IterIs w' b r l rest' → w.grownBy w' (some r) → w'.heap.size = w.heap.size →
      (Instr.entry (.pointer (some ⟨r, 0, none⟩))).run P w' = .ok (.tuple #[key, val]) w' → wpList P ops Q rest (a.put o.dst (.tuple #[.bool true, key, val])) w') : wpList P ops Q (o :: rest) a w := by
  refine wpList_plain hgd fun K' hK' => ?_
  unfold Oper.wp
  rcases h.next (P := P) o.type with ⟨h0, hrun⟩ | ⟨key, val, rest', w', h1, h2, hrun, h3, h4, h5, h6⟩
  · simp [execOp, hop, hit, hrun, Result.andThen]
    exact hK' _ _ (hDone h0)
  · simp [execOp, hop, hit, hrun, Result.andThen]
    exact hK' _ _ (hMore key val rest' w' h1 h2 h3 h4 h5 h6)
theorem wpl_mapPush (hgd : o.guard = none) (m x v : Operand) (t : TypeId) (hop : o.op = Op.mapUpdate t m x v) (k e : TypeId) (K : Keyed P k) (ht : P.underlying t = some (.map k e)) (hm : a.eval m = .map (some b)) (h : MapIs w b l)
    (hk : ∀ p ∈ l, ∃ x, keyOf P k p.1 = some x) (key val : Value) (hx : a.eval x = key) (hv : a.eval v = val) (kl : Lit) (hkey : keyOf P k key = some kl) (hno : ∀ p ∈ l, p.1 ≠ key)
    (hK : ∀ w', MapIs w' b (l ++ [(key, val)]) → w.grownBy w' (some b) → wpList P ops Q rest (a.put o.dst undef) w') : wpList P ops Q (o :: rest) a w := by
  refine wpList_plain hgd fun K' hK' => ?_
  obtain ⟨w', hrun, r1, r2⟩ := h.push (P := P) (val := val) K hk ht hkey hno
  unfold Oper.wp
  simp [execOp, hop, hm, hx, hv, hrun, Result.andThen]
  exact hK' _ _ (hK w' r1 r2)
end
end Go.Pl

/-
  A region that draws its order, walked once: operations that yield under a condition S on the world go first; behind each of the others S is shown anew.
-/
import Derived.Test.YtajohibeoicepaaDoorOrd
import Derived.Test.YtajohibeoicepaaDoorPart
namespace Go.Pl
section
variable {P : Program} {ops : Array Oper} {tl : List Nat} {Q : Exit → Act → World → Prop} {md : Region.Mode} {S : World → Prop}
/-- Operation i, one of the tail (behind it S holds) or one that yields its value under S and leaves the world. -/
def stepS (P : Program) (ops : Array Oper) (tl : List Nat) (S : World → Prop) (Q : Exit → Act → World → Prop) (i : Nat) (K : Act → World → Prop) (a : Act) (w : World) : Prop :=
  ∃ o, ops[i]? = some o ∧ o.guard = none ∧
    (if tl.contains i = true then (o.wp P a w (fun a w => S w ∧ K a w) Q ∨ (o.asks P a w ∧ LetsOut Q)) else ∃ v, (execOp a.eval o).run P w = .ok (.value v) w ∧ K (a.put o.dst v) w)
def anyS (P : Program) (md : Region.Mode) (ops : Array Oper) (tl : List Nat) (S : World → Prop) (Q : Exit → Act → World → Prop) : Nat → Array Bool → Act → World → Prop
  | 0, L, a, w => Region.ready md ops L = [] ∧ Q .normal a w
  | fuel + 1, L, a, w => (Region.ready md ops L = [] → Q .normal a w) ∧ ∀ i ∈ Region.ready md ops L, stepS P ops tl S Q i (anyS P md ops tl S Q fuel (L.setIfInBounds i true)) a w
theorem anyS_any : ∀ (fuel : Nat) (L : Array Bool) (a : Act) (w : World), anyS P md ops tl S Q fuel L a w → wpAny P md ops Q fuel L a w
  | 0, _, _, _, h => h
  | fuel + 1, L, a, w, h => by
    refine ⟨h.1, fun i hi => ?_⟩
    obtain ⟨o, ho, hg, hk⟩ := h.2 i hi
    unfold wpOp
    simp only [ho]
    rw [if_pos (by simp [Region.wanted, hg])]
    split at hk
    · exact hk.imp (Oper.wp_mono fun a w h => anyS_any fuel _ a w h.2) id
    · obtain ⟨v, hr, hn⟩ := hk
      refine .inl ?_
      unfold Oper.wp
      rw [hr]
      exact anyS_any fuel _ _ _ hn
theorem firstS {i : Nat} {oi : Oper} {v : Value} (hi : ops[i]? = some oi) (hgi : oi.guard = none) (hnt : tl.contains i = false) (hsel : ∀ (j : Nat) (o : Oper) cs b, ops[j]? = some o → o.op ≠ .select cs b)
    (hQ : ∀ c a d v w, Q (.panic c) (Act.put a d v) w → Q (.panic c) a w) :
    ∀ (fuel : Nat) (L : Array Bool) (a : Act) (w : World), Down md ops L →
      (∀ j oj, ops[j]? = some oj → j ≠ i → L.getD j true = false → reach md ops ops.size j i = false → oi.apart ops oj = true) →
      i ∈ Region.ready md ops L → S w → (∀ w', S w' → (execOp a.eval oi).run P w' = .ok (.value v) w') →
      anyS P md ops tl S Q fuel (L.setIfInBounds i true) (a.put oi.dst v) w → anyS P md ops tl S Q (fuel + 1) L a w := by
  intro fuel
  induction fuel with
  | zero =>
    intro L a w hd hfree hr hS hv H
    refine ⟨fun h => (by rw [h] at hr; cases hr), fun j hj => ?_⟩
    by_cases hji : j = i
    · subst hji
      exact ⟨oi, hi, hgi, by rw [if_neg (by rw [hnt]; exact Bool.false_ne_true)]; exact ⟨v, hv w hS, H⟩⟩
    · have := ready_mono hj hji
      rw [H.1] at this
      cases this
  | succ fuel ih =>
    intro L a w hd hfree hr hS hv H
    refine ⟨fun h => (by rw [h] at hr; cases hr), fun j hj => ?_⟩
    by_cases hji : j = i
    · subst hji
      exact ⟨oi, hi, hgi, by rw [if_neg (by rw [hnt]; exact Bool.false_ne_true)]; exact ⟨v, hv w hS, H⟩⟩
    · obtain ⟨oj, hoj, hgj, hk⟩ := H.2 j (ready_mono hj hji)
      have hil : L.getD i false = false := by
        have h0 := (mem_ready.1 hr).1
        rcases Nat.lt_or_ge i L.size with h' | h'
        · simp [h'] at h0 ⊢; exact h0
        · simp [Array.getElem?_eq_none h'] at h0
      have hap := hfree j oj hoj hji (mem_ready.1 hj).1 (not_reach hd hj hil _)
      obtain ⟨h1, h2, h3⟩ := Oper.apart_spec hap
      have hex : execOp (a.put oi.dst v).eval oj = execOp a.eval oj := execOp_put oj (fun cs b => hsel j oj cs b hoj) a oi.dst v h1
      have hfree' : ∀ k ok, ops[k]? = some ok → k ≠ i → (L.setIfInBounds j true).getD k true = false → reach md ops ops.size k i = false → oi.apart ops ok = true := fun k ok hk hki hun hno => by
        refine hfree k ok hk hki ?_ hno
        by_cases hjk : j = k
        · subst hjk; exact (mem_ready.1 hj).1
        · rw [getD_set_ne true hjk] at hun; exact hun
      have hval : ∀ (b : Act) u, b.tmps = a.tmps → ∀ w', S w' → (execOp (b.put oj.dst u).eval oi).run P w' = .ok (.value v) w' := fun b u hb w' hw' => by
        have e1 : execOp (b.put oj.dst u).eval oi = execOp b.eval oi := execOp_put oi (fun cs b => hsel i oi cs b hi) b oj.dst u h3
        have e2 : b.eval = a.eval := funext fun x => by cases x <;> simp [Act.eval, hb]
        rw [e1, e2]
        exact hv w' hw'
      refine ⟨oj, hoj, hgj, ?_⟩
      split at hk
      · rename_i htj
        rw [if_pos htj]
        refine hk.imp (wp_put (fun c a w => hQ c a oi.dst v w) hex h2 fun b u w' hb hh => ⟨hh.1, ?_⟩) (fun h => ⟨by have := h.1; unfold Oper.asks at this ⊢; rw [hex] at this; exact this, h.2⟩)
        refine ih (L.setIfInBounds j true) _ w' (down_set hd hj) hfree' (ready_mono hr (Ne.symm hji)) hh.1 (hval b u hb) ?_
        rw [Array.setIfInBounds_comm _ _ hji]
        exact hh.2
      · rename_i htj
        rw [if_neg htj]
        obtain ⟨u, hu, hn⟩ := hk
        rw [hex] at hu
        refine ⟨u, hu, ih (L.setIfInBounds j true) _ w (down_set hd hj) hfree' (ready_mono hr (Ne.symm hji)) hS (hval a u rfl) ?_⟩
        rw [Array.setIfInBounds_comm _ _ hji, ← Act.put_comm a v u h2]
        exact hn
/-- Behind an operation of the tail: S, and on. -/
def onward (S : World → Prop) (Q : Exit → Act → World → Prop) (next : Act → World → Prop) : Exit → Act → World → Prop
  | .normal, a, w => S w ∧ next a w
  | e, a, w => Q e a w
/-- The tail, operation for operation. -/
def wpTail (P : Program) (ops : Array Oper) (S : World → Prop) (Q : Exit → Act → World → Prop) : List Oper → Act → World → Prop
  | [], a, w => Q .normal a w
  | o :: l, a, w => ∀ K : Act → World → Prop, (∀ a w, S w → wpTail P ops S Q l a w → K a w) → o.wp P a w K Q
def pureS (md : Region.Mode) (ops : Array Oper) (tl : List Nat) : List Nat → Array Bool → Bool
  | [], L => tailB md ops tl tl L
  | i :: r, L => freeB md ops (masks md ops) tl false i L && pureS md ops tl r (L.setIfInBounds i true)
def ordS (md : Region.Mode) (ops : Array Oper) (pu tl : List Nat) : Bool :=
  Region.noSelect ops && (pu.length + tl.length == ops.size) && pureS md ops tl pu (Array.replicate ops.size false)
theorem tail_anyS : ∀ (r : List Nat) (L : Array Bool) (a : Act) (w : World), tailB md ops tl r L = true → wpTail P ops S Q (ordPick ops.toList r) a w → anyS P md ops tl S Q r.length L a w
  | [], L, a, w, hB, h => ⟨by simpa [tailB] using hB, h⟩
  | i :: r, L, a, w, hB, h => by
    simp only [tailB, Bool.and_eq_true, beq_iff_eq] at hB
    obtain ⟨⟨⟨h0, h1⟩, h2⟩, h3⟩ := hB
    cases ho : ops[i]? with
    | none => rw [ho] at h2; simp at h2
    | some o =>
      have hg : o.guard = none := by rw [ho] at h2; simpa using h2
      have hp : ordPick ops.toList (i :: r) = o :: ordPick ops.toList r := by simp [ordPick, ho]
      rw [hp] at h
      refine ⟨fun e => (by rw [h1] at e; cases e), fun j hj => ?_⟩
      rw [h1] at hj
      obtain rfl : j = i := by simpa using hj
      refine ⟨o, ho, hg, ?_⟩
      rw [if_pos h0]
      exact .inl (h _ fun a w hS hh => ⟨hS, tail_anyS r _ a w h3 hh⟩)
theorem pure_anyS (hsel : ∀ (j : Nat) (o : Oper) cs b, ops[j]? = some o → o.op ≠ .select cs b) (hQ : ∀ c a d v w, Q (.panic c) (Act.put a d v) w → Q (.panic c) a w) {w : World} (hS : S w) :
    ∀ (r : List Nat) (L : Array Bool) (a : Act), Down md ops L → pureS md ops tl r L = true → wpQuiet P ops S (fun a1 => wpTail P ops S Q (ordPick ops.toList tl) a1 w) (ordPick ops.toList r) a →
      anyS P md ops tl S Q (r.length + tl.length) L a w
  | [], L, a, _, hB, h => by simpa using tail_anyS tl L a w hB h
  | i :: r, L, a, hdn, hB, h => by
    simp only [pureS, Bool.and_eq_true] at hB
    obtain ⟨oi, hoi, hne, hg, hnt, hr, hf⟩ := free_spec hB.1
    have hp : ordPick ops.toList (i :: r) = oi :: ordPick ops.toList r := by simp [ordPick, hoi]
    rw [hp] at h
    obtain ⟨v, hv, hk⟩ := quiet_value hne (quiet_step hg h)
    have ih := pure_anyS hsel hQ hS r _ _ (down_set hdn hr) hB.2 hk
    rw [show (i :: r).length + tl.length = (r.length + tl.length) + 1 by simp; omega]
    exact firstS hoi hg hnt hsel hQ _ L a w hdn (fun j oj hoj hji hun hno => (hf j oj hoj hji hun hno).1) hr hS (fun w' hw' => hv w' hw') ih
end
/-- pu: the operations that yield under S; tl: the others, behind each of which S is shown anew. -/
theorem wp_region_ordS {P : Program} {id : Nat} {Q : Exit → Act → World → Prop} {a : Act} {w : World} {l : List Oper} (S : World → Prop) (pu tl : List Nat) (hm : P.follows .mixedOrders = true) (hB : ordS .any l.toArray pu tl = true)
    (hQ' : ∀ c a (d : Tmp) v w, Q (.panic c) (Act.put a (some d) v) w → Q (.panic c) a w) (hS : S w.drew)
    (h : wpQuiet P l.toArray S (fun a1 => wpTail P l.toArray S Q (ordPick l tl) a1 w.drew) (ordPick l pu) a) : (Code.region id l.toArray true).wp P Q a w := by
  have hQ : ∀ c a d v w, Q (.panic c) (Act.put a d v) w → Q (.panic c) a w := fun c a d v w h => by
    cases d with
    | none => exact h
    | some d => exact hQ' c a d v w h
  simp only [ordS, Bool.and_eq_true, beq_iff_eq] at hB
  obtain ⟨⟨hs, hn⟩, hB⟩ := hB
  refine wp_region_any hm (anyS_any _ _ _ _ (tl := tl) (S := S) ?_)
  have H := pure_anyS (P := P) (md := .any) (tl := tl) (Q := Q) (w := w.drew) (S := S) (Region.noSelect_spec hs) hQ hS pu (Array.replicate l.toArray.size false) a (fun j oj _ hj => ?_) hB h
  · rw [hn] at H
    exact H
  · exfalso
    rw [Array.getD_eq_getD_getElem?] at hj
    simp [Array.getElem?_replicate] at hj
    split at hj <;> simp at hj
section
variable {P : Program} {ops : Array Oper} {rest : List Oper} {o : Oper} {a : Act} {Q : Exit → Act → World → Prop} {w : World} {S : World → Prop}
/-- 'wpl_append_sl', of a lone operation. -/
theorem op_append_sl (w : World) {K : Act → World → Prop} (s x : Operand) (t : TypeId)
    (ho : o.op = .call { callee := .builtin .append, args := #[s, x], argTypes := #[t, t] })
    (base : Nat) (e : TypeId) (ht : P.underlying t = some (.slice e)) (hi : (P.info? e).map (fun i => (i.zero, i.size, i.bytes)) = some (some (.int .u8 0), 1, 1))
    (v : Value) (hs : a.eval s = v) (bs : List UInt8) (hown : w.ownsRow base e 1 v bs.length (bs.map u8v)) (B : Nat) (xv : Value) (hx : a.eval x = xv) (cs : List UInt8) (hb : Bytes w B xv cs)
    (hl : bs.length + cs.length ≤ 140737488355328) (hbase : base ≤ w.heap.size)
    (n : Nat) (hn : (bs ++ cs).length = n)
    (h : ∀ A c w', w'.ownsRow base e 1 (.slice A n c) n ((bs ++ cs).map u8v) → w.grownBy w' v.ownBlock →
      ((Value.slice A n c).ownBlock = v.ownBlock ∨ (Value.slice A n c).ownBlock = some w.heap.size) → K (a.put o.dst (.slice A n c)) w') : o.wp P a w K Q := by
  obtain ⟨v', w', hrun, h2, h3, h4⟩ := run_append_bytes (P := P) w base t o.type e ht hi v bs hown B xv cs hb hl hbase
  unfold Oper.wp execOp
  simp only [ho, resolve, invoke, builtin, Sem.run_bind, Sem.run_pure, Result.andThen_ok, List.map_toArray, List.map_cons, List.map_nil, hs, hx, hrun]
  subst hn
  obtain ⟨A, c, rfl, _, _⟩ := own_slice h2
  exact h A c w' h2 h3 h4
theorem op_value (w : World) {K : Act → World → Prop} (v : Value) (hrun : (execOp a.eval o).run P w = .ok (.value v) w) (h : K (a.put o.dst v) w) : o.wp P a w K Q := by
  unfold Oper.wp
  rw [hrun]
  exact h
/-- A cell, loaded where a region is walked quietly. -/
theorem wpq_load_one {C : World → Prop} {R : Act → Prop} (hgd : o.guard = none) (ty : TypeId) (x : Operand) (hop : o.op = .load ty x) (p : Addr) (hx : a.eval x = .pointer (some p)) (v : Value) (hc : ∀ w, C w → w.cell? p = some v)
    (d : TypeDesc) (hu : P.underlying ty = some d) (hd : d.isRow = false)
    (h : wpQuiet P ops C R rest (a.put o.dst v)) : wpQuiet P ops C R (o :: rest) a :=
  BigFrame.wpQuiet_want (by simp [Region.wanted, hgd]) fun K hK => ⟨v, fun w hw => by
    have hagg : (isAgg ty).run P w = .ok false w := by
      unfold isAgg
      rw [Sem.run_bind, run_underlying hu w]
      cases d <;> simp_all
    have hl : (loadVar ty p).run P w = .ok v w := by
      simp [loadVar, Sem.run_bind, hagg, hc w hw]
    unfold Oper.quietAt execOp
    simp only [hop, hx, Instr.loadAt, Instr.sureAddr, Sem.run_bind, Sem.run_pure, Result.andThen_ok, hl]
    exact ⟨rfl, rfl⟩, hK _ h⟩
end
end Go.Pl

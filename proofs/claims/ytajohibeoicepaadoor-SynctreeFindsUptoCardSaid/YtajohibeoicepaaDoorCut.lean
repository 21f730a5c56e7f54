/-
  Parts of rows, whatever the size of an element.
-/
import Derived.Test.YtajohibeoicepaaDoorOff
import Derived.Test.YtajohibeoicepaaDoorPart
namespace Go.Pl
open Go.RowKit
section
variable {w w' : World} {S T : Nat → Prop} {sz : Nat} {A : Option Addr} {n c : Nat} {vs : List Value}
theorem Row.to (h : Row w S sz A n c vs) {k : Nat} (hk : k ≤ n) : Row w S sz A k c (vs.take (k * sz)) := by
  have hle := h.le
  have hl := h.len
  have hm : k * sz ≤ n * sz := Nat.mul_le_mul_right sz hk
  refine ⟨by rw [List.length_take]; omega, by omega, h.max, h.none, fun hn => ?_⟩
  obtain ⟨b, o, hA, hS, hb, hc⟩ := h.at_ (by omega)
  exact ⟨b, o, hA, hS, hb, fun i hi => by rw [hc i (by omega), List.getElem?_take, if_pos hi]⟩
theorem Row.from_ (h : Row w S sz A n c vs) {k : Nat} (hk : k ≤ n) : Row w S sz (if c = k then A else A.map (·.add (k * sz))) (n - k) (c - k) (vs.drop (k * sz)) := by
  have hle := h.le
  have hl := h.len
  have hm : k * sz ≤ n * sz := Nat.mul_le_mul_right sz hk
  refine ⟨by rw [List.length_drop, Nat.sub_mul]; omega, by omega, by have := h.max; omega, fun e => ?_, fun hn => ?_⟩
  · split at e
    · omega
    · rw [h.none (by simpa using e)]; omega
  · obtain ⟨b, o, hA, hS, hb, hc⟩ := h.at_ (by omega)
    rw [if_neg (by omega), hA]
    refine ⟨b, o + k * sz, by simp [add_none], hS, hb, fun i hi => ?_⟩
    rw [Nat.sub_mul] at hi
    rw [Nat.add_assoc, hc (k * sz + i) (by omega), List.getElem?_drop]
/-- The row without its first elements is still the call's own. -/
theorem OwnO.from_ {e : TypeId} (h : OwnO w e sz A n c vs) {k : Nat} (hk : k ≤ n) : OwnO w e sz (if c = k then A else A.map (·.add (k * sz))) (n - k) (c - k) (vs.drop (k * sz)) := by
  have hlt := h.lt
  by_cases hck : c = k
  · rw [if_pos hck]
    have hnc := h.le.1
    refine ⟨by rw [List.length_drop, Nat.sub_mul]; have := h.1; omega, .inl ⟨by omega, by omega, fun g hg => hlt g ?_⟩⟩
    cases A with
    | none => simp [Value.ownBlock] at hg
    | some x => exact hg
  · rw [if_neg hck]
    have hm : k * sz ≤ n * sz := Nat.mul_le_mul_right sz hk
    obtain ⟨hl, h2⟩ := h
    refine ⟨by rw [List.length_drop, Nat.sub_mul]; omega, ?_⟩
    rcases h2 with ⟨rfl, rfl, _⟩ | ⟨g, off, cur, rfl, hb, hnc, hcm, hcs, ht⟩
    · omega
    · have hkc : k * sz ≤ c * sz := Nat.mul_le_mul_right sz (by omega)
      refine .inr ⟨g, off + k * sz, cur, by simp [add_none], hb, by omega, by omega, by rw [Nat.sub_mul]; omega, ?_⟩
      rw [← ht, List.drop_take, List.drop_drop, Nat.sub_mul]
theorem mid_own {k : Nat} {A : Option Addr} {n c : Nat} : ∀ b, (Value.slice (if c = k then A else A.map (·.add (k * sz))) (n - k) (c - k)).ownBlock = some b → (Value.slice A n c).ownBlock = some b := by
  intro b hb
  split at hb
  · cases A with
    | none => simp [Value.ownBlock] at hb
    | some x => exact hb
  · cases A with
    | none => simp [Value.ownBlock] at hb
    | some x =>
      obtain ⟨b', o, z⟩ := x
      have hb : (Addr.add ⟨b', o, z⟩ (k * sz)).block = b := by simpa [Value.ownBlock] using hb
      unfold Addr.add at hb
      split at hb <;> exact congrArg some hb
end
section
variable {P : Program} {ops : Array Oper} {rest : List Oper} {o : Oper} {a : Act} {Q : Exit → Act → World → Prop} {w : World}
theorem run_sliceAt_fromz (t e : TypeId) (sz : Nat) (ht : P.underlying t = some (.slice e)) (hi : (P.info? e).map (·.size) = some sz) (A : Option Addr) (n c k : Nat) (kl : IntKind) (hk : k ≤ n) :
    (Instr.sliceAt t (.slice A n c) (some (.int kl (k : Int))) none none).run P w = .ok (.slice (if c = k then A else A.map (·.add (k * sz))) (n - k) (c - k)) w := by
  obtain ⟨i, hi0, hsz⟩ : ∃ i, P.info? e = some i ∧ i.size = sz := by
    cases hx : P.info? e with
    | none => rw [hx] at hi; cases hi
    | some i => rw [hx] at hi; exact ⟨i, rfl, by simpa using hi⟩
  have he : P.elem t = e := by simp [Program.elem, ht]
  have ht' : P.underlying t = some (.slice (P.elem t)) := by rw [he]; exact ht
  rw [run_sliceAt_slice w t _ _ _ _ ht', run_slice_l w t A n c ht' kl (k : Int) (by omega) (by omega)]
  simp [he, sizeOf, typeInfo, hi0, hsz, sliced]
theorem run_sliceAt_toz (t e : TypeId) (sz : Nat) (ht : P.underlying t = some (.slice e)) (hi : (P.info? e).map (·.size) = some sz) (A : Option Addr) (n c k : Nat) (kl : IntKind) (hk : k ≤ c) :
    (Instr.sliceAt t (.slice A n c) none (some (.int kl (k : Int))) none).run P w = .ok (.slice A k c) w := by
  obtain ⟨i, hi0, hsz⟩ : ∃ i, P.info? e = some i ∧ i.size = sz := by
    cases hx : P.info? e with
    | none => rw [hx] at hi; cases hi
    | some i => rw [hx] at hi; exact ⟨i, rfl, by simpa using hi⟩
  have he : P.elem t = e := by simp [Program.elem, ht]
  have ht' : P.underlying t = some (.slice (P.elem t)) := by rw [he]; exact ht
  rw [run_sliceAt_slice w t _ _ _ _ ht', run_slice_h w t A n c ht' kl (k : Int) (by omega) (by omega)]
  simp [he, sizeOf, typeInfo, hi0, hsz, sliced]
  cases A with
  | none => simp
  | some x =>
    obtain ⟨b, o, z⟩ := x
    cases z <;> simp [Addr.add]
/-- v[k:] where a region is walked quietly. -/
theorem wpq_slice_fromz {C : World → Prop} {R : Act → Prop} (hgd : o.guard = none) (t : TypeId) (x y : Operand) (ho : o.op = .slice t x (some y) none none) (e : TypeId) (sz : Nat) (ht : P.underlying t = some (.slice e)) (hi : (P.info? e).map (·.size) = some sz)
    (A : Option Addr) (n c : Nat) (hx : a.eval x = .slice A n c) (kl : IntKind) (k : Nat) (hy : a.eval y = .int kl (k : Int)) (hk : k ≤ n)
    (h : wpQuiet P ops C R rest (a.put o.dst (.slice (if c = k then A else A.map (·.add (k * sz))) (n - k) (c - k)))) : wpQuiet P ops C R (o :: rest) a :=
  BigFrame.wpQuiet_want (by simp [Region.wanted, hgd]) fun K hK => ⟨_, fun w hw => by
    unfold Oper.quietAt execOp
    simp only [ho, hx, Option.map_some, Option.map_none, hy, Sem.run_bind, run_sliceAt_fromz t e sz ht hi A n c k kl hk, Result.andThen_ok, Sem.run_pure]
    exact ⟨rfl, rfl⟩, hK _ h⟩
theorem wpq_slice_toz {C : World → Prop} {R : Act → Prop} (hgd : o.guard = none) (t : TypeId) (x y : Operand) (ho : o.op = .slice t x none (some y) none) (e : TypeId) (sz : Nat) (ht : P.underlying t = some (.slice e)) (hi : (P.info? e).map (·.size) = some sz)
    (A : Option Addr) (n c : Nat) (hx : a.eval x = .slice A n c) (kl : IntKind) (k : Nat) (hy : a.eval y = .int kl (k : Int)) (hk : k ≤ c)
    (h : wpQuiet P ops C R rest (a.put o.dst (.slice A k c))) : wpQuiet P ops C R (o :: rest) a :=
  BigFrame.wpQuiet_want (by simp [Region.wanted, hgd]) fun K hK => ⟨_, fun w hw => by
    unfold Oper.quietAt execOp
    simp only [ho, hx, Option.map_some, Option.map_none, hy, Sem.run_bind, run_sliceAt_toz t e sz ht hi A n c k kl hk, Result.andThen_ok, Sem.run_pure]
    exact ⟨rfl, rfl⟩, hK _ h⟩
theorem wpl_slice_fromz (hgd : o.guard = none) (t : TypeId) (x y : Operand) (ho : o.op = .slice t x (some y) none none) (e : TypeId) (sz : Nat) (ht : P.underlying t = some (.slice e)) (hi : (P.info? e).map (·.size) = some sz)
    (A : Option Addr) (n c : Nat) (hx : a.eval x = .slice A n c) (kl : IntKind) (k : Nat) (hy : a.eval y = .int kl (k : Int)) (hk : k ≤ n)
    (h : wpList P ops Q rest (a.put o.dst (.slice (if c = k then A else A.map (·.add (k * sz))) (n - k) (c - k))) w) : wpList P ops Q (o :: rest) a w := by
  refine wpl_value w hgd _ ?_ h
  unfold execOp
  simp only [ho, hx, Option.map_some, Option.map_none, hy, Sem.run_bind, run_sliceAt_fromz t e sz ht hi A n c k kl hk, Result.andThen_ok, Sem.run_pure]
theorem wpl_slice_toz (hgd : o.guard = none) (t : TypeId) (x y : Operand) (ho : o.op = .slice t x none (some y) none) (e : TypeId) (sz : Nat) (ht : P.underlying t = some (.slice e)) (hi : (P.info? e).map (·.size) = some sz)
    (A : Option Addr) (n c : Nat) (hx : a.eval x = .slice A n c) (kl : IntKind) (k : Nat) (hy : a.eval y = .int kl (k : Int)) (hk : k ≤ c)
    (h : wpList P ops Q rest (a.put o.dst (.slice A k c)) w) : wpList P ops Q (o :: rest) a w := by
  refine wpl_value w hgd _ ?_ h
  unfold execOp
  simp only [ho, hx, Option.map_some, Option.map_none, hy, Sem.run_bind, run_sliceAt_toz t e sz ht hi A n c k kl hk, Result.andThen_ok, Sem.run_pure]
end
end Go.Pl

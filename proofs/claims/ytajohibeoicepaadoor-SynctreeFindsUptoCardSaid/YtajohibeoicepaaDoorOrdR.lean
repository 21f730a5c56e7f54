/-
  A region that draws its order, walked once by a plan: between calls (which may make memory) go operations that only read; each is done as soon as it is free. Guards are looked at as the walk goes.
-/
import Derived.Test.YtajohibeoicepaaDoorOrd
import Derived.Test.YtajohibeoicepaaDoorPart
namespace Go.Pl
open Go.RowKit
/-- Operations that yield a value and enter nothing. -/
def calm (o : Oper) : Bool := noEnter o || (match o.op with | .pick .. => true | .build .. => true | _ => false)
theorem calm_value {P : Program} {C : World → Prop} {o : Oper} {a : Act} {next : Act → Prop} (hn : calm o = true) (h : o.quiet P a C next) : ∃ v, (∀ w, C w → (execOp a.eval o).run P w = .ok (.value v) w) ∧ next (a.put o.dst v) := by
  unfold calm at hn
  rw [Bool.or_eq_true] at hn
  rcases hn with hn | hn
  · exact quiet_value hn h
  · obtain ⟨v, hv, hk⟩ := h
    refine ⟨v, fun w hw => ?_, hk⟩
    have hq := hv w hw
    unfold Oper.quietAt at hq
    cases hr : (execOp a.eval o).run P w with
    | halt e w' => rw [hr] at hq; exact hq.elim
    | ok n w' =>
      have hval : ∃ u, n = .value u := by
        unfold execOp at hr
        split at hn <;> rename_i he <;> (try (simp at hn; done)) <;> simp only [he] at hr
        · rw [Sem.run_bind] at hr
          revert hr
          generalize (asBool _).run P w = r
          intro hr
          cases r with
          | ok b w1 => exact ⟨_, (Result.ok.inj (by simpa using hr)).1.symm⟩
          | halt e w1 => simp at hr
        · exact value_only _ hr
      obtain ⟨u, rfl⟩ := hval
      rw [hr] at hq
      obtain ⟨h1, h2⟩ := hq
      rw [h1, h2]
section
variable {P : Program} {ops : Array Oper} {tl : List Nat} {Q : Exit → Act → World → Prop} {md : Region.Mode} {R : World → World → Prop}
/-- Operation i: passed over by its guard, one of the tail (behind it R holds) or one that yields its value and leaves the world. -/
def stepR (P : Program) (ops : Array Oper) (tl : List Nat) (R : World → World → Prop) (Q : Exit → Act → World → Prop) (i : Nat) (K : Act → World → Prop) (a : Act) (w : World) : Prop :=
  ∃ o, ops[i]? = some o ∧
    (if Region.wanted o (yielded ops a.tmps) = true then
      (if tl.contains i = true then (o.wp P a w (fun a' w' => R w w' ∧ K a' w') Q ∨ (o.asks P a w ∧ LetsOut Q)) else ∃ v, (execOp a.eval o).run P w = .ok (.value v) w ∧ K (a.put o.dst v) w)
    else K (a.put o.dst undef) w)
def anyR (P : Program) (md : Region.Mode) (ops : Array Oper) (tl : List Nat) (R : World → World → Prop) (Q : Exit → Act → World → Prop) : Nat → Array Bool → Act → World → Prop
  | 0, L, a, w => Region.ready md ops L = [] ∧ Q .normal a w
  | fuel + 1, L, a, w => (Region.ready md ops L = [] → Q .normal a w) ∧ ∀ i ∈ Region.ready md ops L, stepR P ops tl R Q i (anyR P md ops tl R Q fuel (L.setIfInBounds i true)) a w
theorem anyR_any : ∀ (fuel : Nat) (L : Array Bool) (a : Act) (w : World), anyR P md ops tl R Q fuel L a w → wpAny P md ops Q fuel L a w
  | 0, _, _, _, h => h
  | fuel + 1, L, a, w, h => by
    refine ⟨h.1, fun i hi => ?_⟩
    obtain ⟨o, ho, hk⟩ := h.2 i hi
    unfold wpOp
    simp only [ho]
    by_cases hw : Region.wanted o (yielded ops a.tmps) = true
    · rw [if_pos hw] at hk ⊢
      split at hk
      · exact hk.imp (Oper.wp_mono fun a w h => anyR_any fuel _ a w h.2) id
      · obtain ⟨v, hr, hn⟩ := hk
        refine .inl ?_
        unfold Oper.wp
        rw [hr]
        exact anyR_any fuel _ _ _ hn
    · rw [if_neg hw] at hk ⊢
      exact anyR_any fuel _ _ _ hk
/-- An operation that yields v wherever R leads, or that its guard passes over. -/
def YieldsR (P : Program) (ops : Array Oper) (R : World → World → Prop) (o : Oper) (v : Value) (a : Act) (w : World) : Prop :=
  (Region.wanted o (yielded ops a.tmps) = true ∧ ∀ w', R w w' → (execOp a.eval o).run P w' = .ok (.value v) w') ∨ (Region.wanted o (yielded ops a.tmps) = false ∧ v = undef)
theorem YieldsR.step {i : Nat} {oi : Oper} {v : Value} {K : Act → World → Prop} {a : Act} {w : World} (hi : ops[i]? = some oi) (hnt : tl.contains i = false) (hrf : ∀ w, R w w) (hy : YieldsR P ops R oi v a w) (h : K (a.put oi.dst v) w) :
    stepR P ops tl R Q i K a w := by
  refine ⟨oi, hi, ?_⟩
  rcases hy with ⟨hw, hv⟩ | ⟨hw, rfl⟩
  · rw [if_pos hw, if_neg (by rw [hnt]; exact Bool.false_ne_true)]
    exact ⟨v, hv w (hrf w), h⟩
  · rw [if_neg (by rw [hw]; exact Bool.false_ne_true)]
    exact h
theorem firstR {i : Nat} {oi : Oper} {v : Value} (hrf : ∀ w, R w w) (htr : ∀ a b c, R a b → R b c → R a c) (hi : ops[i]? = some oi) (hnt : tl.contains i = false) (hsel : ∀ (j : Nat) (o : Oper) cs b, ops[j]? = some o → o.op ≠ .select cs b)
    (hQ : ∀ c a d v w, Q (.panic c) (Act.put a d v) w → Q (.panic c) a w) :
    ∀ (fuel : Nat) (L : Array Bool) (a : Act) (w : World), Down md ops L →
      (∀ j oj, ops[j]? = some oj → j ≠ i → L.getD j true = false → reach md ops ops.size j i = false → oi.apart ops oj = true) →
      i ∈ Region.ready md ops L → YieldsR P ops R oi v a w →
      anyR P md ops tl R Q fuel (L.setIfInBounds i true) (a.put oi.dst v) w → anyR P md ops tl R Q (fuel + 1) L a w := by
  intro fuel
  induction fuel with
  | zero =>
    intro L a w hd hfree hr hv H
    refine ⟨fun h => (by rw [h] at hr; cases hr), fun j hj => ?_⟩
    by_cases hji : j = i
    · subst hji
      exact hv.step hi hnt hrf H
    · have := ready_mono hj hji
      rw [H.1] at this
      cases this
  | succ fuel ih =>
    intro L a w hd hfree hr hv H
    refine ⟨fun h => (by rw [h] at hr; cases hr), fun j hj => ?_⟩
    by_cases hji : j = i
    · subst hji
      exact hv.step hi hnt hrf H
    · obtain ⟨oj, hoj, hk⟩ := H.2 j (ready_mono hj hji)
      have hil : L.getD i false = false := by
        have h0 := (mem_ready.1 hr).1
        rcases Nat.lt_or_ge i L.size with h' | h'
        · simp [h'] at h0 ⊢; exact h0
        · simp [Array.getElem?_eq_none h'] at h0
      have hap := hfree j oj hoj hji (mem_ready.1 hj).1 (not_reach hd hj hil _)
      obtain ⟨h1, h2, h3⟩ := Oper.apart_spec hap
      have hex : execOp (a.put oi.dst v).eval oj = execOp a.eval oj := execOp_put oj (fun cs b => hsel j oj cs b hoj) a oi.dst v h1
      have hfree' : ∀ k ok, ops[k]? = some ok → k ≠ i → (L.setIfInBounds j true).getD k true = false → reach md ops ops.size k i = false → oi.apart ops ok = true := fun k ok hk hki hun hno => by
        refine hfree k ok hk hki ?_ hno
        by_cases hjk : j = k
        · subst hjk; exact (mem_ready.1 hj).1
        · rw [getD_set_ne true hjk] at hun; exact hun
      have hval : ∀ (b : Act) u, b.tmps = a.tmps → ∀ w', R w w' → YieldsR P ops R oi v (b.put oj.dst u) w' := fun b u hb w' hw' => by
        have e1 : execOp (b.put oj.dst u).eval oi = execOp b.eval oi := execOp_put oi (fun cs b => hsel i oi cs b hi) b oj.dst u h3
        have e2 : b.eval = a.eval := funext fun x => by cases x <;> simp [Act.eval, hb]
        have e3 : Region.wanted oi (yielded ops (b.put oj.dst u).tmps) = Region.wanted oi (yielded ops a.tmps) := by rw [wanted_put oi b oj.dst u h3, hb]
        unfold YieldsR at hv ⊢
        rw [e1, e2, e3]
        exact hv.imp (fun h => ⟨h.1, fun w'' hw'' => h.2 w'' (htr _ _ _ hw' hw'')⟩) id
      rw [wanted_put oj a oi.dst v h1] at hk
      refine ⟨oj, hoj, ?_⟩
      by_cases hwj : Region.wanted oj (yielded ops a.tmps) = true
      · rw [if_pos hwj] at hk ⊢
        split at hk
        · rename_i htj
          rw [if_pos htj]
          refine hk.imp (wp_put (fun c a w => hQ c a oi.dst v w) hex h2 fun b u w' hb hh => ⟨hh.1, ?_⟩) (fun h => ⟨by have := h.1; unfold Oper.asks at this ⊢; rw [hex] at this; exact this, h.2⟩)
          refine ih (L.setIfInBounds j true) _ w' (down_set hd hj) hfree' (ready_mono hr (Ne.symm hji)) (hval b u hb w' hh.1) ?_
          rw [Array.setIfInBounds_comm _ _ hji]
          exact hh.2
        · rename_i htj
          rw [if_neg htj]
          obtain ⟨u, hu, hn⟩ := hk
          rw [hex] at hu
          refine ⟨u, hu, ih (L.setIfInBounds j true) _ w (down_set hd hj) hfree' (ready_mono hr (Ne.symm hji)) (hval a u rfl w (hrf w)) ?_⟩
          rw [Array.setIfInBounds_comm _ _ hji, ← Act.put_comm a v u h2]
          exact hn
      · rw [if_neg hwj] at hk ⊢
        refine ih (L.setIfInBounds j true) _ w (down_set hd hj) hfree' (ready_mono hr (Ne.symm hji)) (hval a undef rfl w (hrf w)) ?_
        rw [Array.setIfInBounds_comm _ _ hji, ← Act.put_comm a v undef h2]
        exact hk
/-- Behind an operation of the tail: R, and on. -/
def onwardR (R : World → World → Prop) (w : World) (Q : Exit → Act → World → Prop) (next : Act → World → Prop) : Exit → Act → World → Prop
  | .normal, a, w' => R w w' ∧ next a w'
  | e, a, w' => Q e a w'
theorem wp_onward {o : Oper} {a : Act} {w w0 : World} {K : Act → World → Prop} {next : Act → World → Prop} (h : o.wp P a w K (onwardR R w0 Q next)) : o.wp P a w K Q := by
  unfold Oper.wp at *
  generalize (execOp a.eval o).run P w = r at *
  cases r with
  | ok n w' =>
    cases n <;> simp only [Oper.upon] at h ⊢
    case value u => exact h
    case skip => exact h
    case defer x => exact h
    case enter f args =>
      refine Calls.mono h fun e w'' hh => ?_
      cases e with
      | returned u => exact hh
      | panicked c => exact hh
      | outgrown => exact hh
    case row r args => exact h
  | halt x w' =>
    cases x <;> simp only [Oper.upon] at h ⊢
    exact h
/-- The plan, walked. -/
def wpPlan (P : Program) (ops : Array Oper) (R : World → World → Prop) (Q : Exit → Act → World → Prop) (l : List Oper) : List (List Nat × Nat) → List Nat → Act → World → Prop
  | [], last, a, w => wpQuiet P ops (R w) (fun a1 => Q .normal a1 w) (ordPick l last) a
  | (fs, t) :: r, last, a, w => wpQuiet P ops (R w) (fun a1 => wpList P ops (onwardR R w Q (wpPlan P ops R Q l r last)) (ordPick l [t]) a1 w) (ordPick l fs) a
def freeR (md : Region.Mode) (ops : Array Oper) (M : List Nat) (tl : List Nat) (i : Nat) (L : Array Bool) : Bool :=
  match ops[i]? with
  | some oi => calm oi && !tl.contains i && (Region.ready md ops L).contains i && (List.range ops.size).all fun j =>
      j == i || L.getD j true || (M.getD j 0).testBit i || (match ops[j]? with | some oj => oi.apart ops oj | none => true)
  | none => false
def floatsB (md : Region.Mode) (ops : Array Oper) (M : List Nat) (tl : List Nat) : List Nat → Array Bool → Bool × Array Bool
  | [], L => (true, L)
  | i :: r, L => if freeR md ops M tl i L = true then floatsB md ops M tl r (L.setIfInBounds i true) else (false, L)
def planB (md : Region.Mode) (ops : Array Oper) (M : List Nat) (tl : List Nat) : List (List Nat × Nat) → List Nat → Array Bool → Bool
  | [], last, L => (floatsB md ops M tl last L).1 && (Region.ready md ops (floatsB md ops M tl last L).2 == [])
  | (fs, t) :: r, last, L => (floatsB md ops M tl fs L).1 && tl.contains t && (Region.ready md ops (floatsB md ops M tl fs L).2 == [t]) && planB md ops M tl r last ((floatsB md ops M tl fs L).2.setIfInBounds t true)
def planLen : List (List Nat × Nat) → List Nat → Nat
  | [], last => last.length
  | (fs, _) :: r, last => fs.length + (planLen r last + 1)
def planR (md : Region.Mode) (ops : Array Oper) (plan : List (List Nat × Nat)) (last : List Nat) : Bool :=
  Region.noSelect ops && (planLen plan last == ops.size) && planB md ops (masks md ops) (plan.map (·.2)) plan last (Array.replicate ops.size false)
theorem freeR_spec {i : Nat} {L : Array Bool} (h : freeR md ops (masks md ops) tl i L = true) : ∃ oi, ops[i]? = some oi ∧ calm oi = true ∧ tl.contains i = false ∧ i ∈ Region.ready md ops L ∧
    ∀ j oj, ops[j]? = some oj → j ≠ i → L.getD j true = false → reach md ops ops.size j i = false → oi.apart ops oj = true := by
  unfold freeR at h
  split at h
  · rename_i oi hoi
    simp only [Bool.and_eq_true, Bool.not_eq_true', List.contains_iff_mem, List.all_eq_true, List.mem_range, Bool.or_eq_true, beq_iff_eq] at h
    obtain ⟨⟨⟨h1, h3⟩, h4⟩, h5⟩ := h
    refine ⟨oi, hoi, h1, by simpa using h3, h4, fun j oj hoj hji hl hr => ?_⟩
    have hlt : j < ops.size := (Array.getElem?_eq_some_iff.1 hoj).1
    rcases h5 j hlt with ((e | e) | e) | e
    · exact (hji e).elim
    · rw [e] at hl; cases hl
    · rw [mask_reach hlt e] at hr; cases hr
    · simp only [hoj] at e
      exact e
  · cases h
theorem floats_any (hrf : ∀ w, R w w) (htr : ∀ a b c, R a b → R b c → R a c) (hsel : ∀ (j : Nat) (o : Oper) cs b, ops[j]? = some o → o.op ≠ .select cs b) (hQ : ∀ c a d v w, Q (.panic c) (Act.put a d v) w → Q (.panic c) a w) {w : World} {n : Nat} {G : Act → Prop} :
    ∀ (fs : List Nat) (L : Array Bool) (a : Act), Down md ops L → (floatsB md ops (masks md ops) tl fs L).1 = true → wpQuiet P ops (R w) G (ordPick ops.toList fs) a →
      (∀ a1, Down md ops (floatsB md ops (masks md ops) tl fs L).2 → G a1 → anyR P md ops tl R Q n (floatsB md ops (masks md ops) tl fs L).2 a1 w) → anyR P md ops tl R Q (fs.length + n) L a w
  | [], L, a, hdn, _, h, hk => by
    have := hk a hdn h
    simp only [floatsB] at this
    simpa using this
  | i :: r, L, a, hdn, hB, h, hk => by
    unfold floatsB at hB hk
    split at hB
    · rename_i hf
      rw [if_pos hf] at hk
      obtain ⟨oi, hoi, hne, hnt, hr, hap⟩ := freeR_spec hf
      have hp : ordPick ops.toList (i :: r) = oi :: ordPick ops.toList r := by simp [ordPick, hoi]
      rw [hp] at h
      have hy : ∃ v, YieldsR P ops R oi v a w ∧ wpQuiet P ops (R w) G (ordPick ops.toList r) (a.put oi.dst v) := by
        simp only [wpQuiet] at h
        by_cases hw : Region.wanted oi (yielded ops a.tmps) = true
        · rw [if_pos hw] at h
          obtain ⟨v, hv, hn⟩ := calm_value hne h
          exact ⟨v, .inl ⟨hw, hv⟩, hn⟩
        · rw [if_neg hw] at h
          exact ⟨undef, .inr ⟨by simpa using hw, rfl⟩, h⟩
      obtain ⟨v, hv, hn⟩ := hy
      have ih := floats_any hrf htr hsel hQ r _ _ (down_set hdn hr) hB hn hk
      rw [show (i :: r).length + n = (r.length + n) + 1 by simp; omega]
      exact firstR hrf htr hoi hnt hsel hQ _ L a w hdn hap hr hv ih
    · cases hB
theorem plan_any (hrf : ∀ w, R w w) (htr : ∀ a b c, R a b → R b c → R a c) (hsel : ∀ (j : Nat) (o : Oper) cs b, ops[j]? = some o → o.op ≠ .select cs b) (hQ : ∀ c a d v w, Q (.panic c) (Act.put a d v) w → Q (.panic c) a w) :
    ∀ (plan : List (List Nat × Nat)) (last : List Nat) (L : Array Bool) (a : Act) (w : World), Down md ops L → planB md ops (masks md ops) tl plan last L = true → wpPlan P ops R Q ops.toList plan last a w →
      anyR P md ops tl R Q (planLen plan last) L a w
  | [], last, L, a, w, hdn, hB, h => by
    simp only [planB, Bool.and_eq_true, beq_iff_eq] at hB
    exact floats_any (n := 0) hrf htr hsel hQ last L a hdn hB.1 h fun a1 _ hg => ⟨hB.2, hg⟩
  | (fs, t) :: r, last, L, a, w, hdn, hB, h => by
    simp only [planB, Bool.and_eq_true, beq_iff_eq] at hB
    obtain ⟨⟨⟨h0, h1⟩, h2⟩, h3⟩ := hB
    refine floats_any (n := planLen r last + 1) hrf htr hsel hQ fs L a hdn h0 h fun a1 hd1 hg => ?_
    refine ⟨fun e => (by rw [h2] at e; cases e), fun j hj => ?_⟩
    have hjr := hj
    rw [h2] at hj
    obtain rfl : j = t := by simpa using hj
    obtain ⟨_, o, ho, _⟩ := mem_ready.1 hjr
    have hp : ordPick ops.toList [j] = [o] := by simp [ordPick, ho]
    rw [hp] at hg
    have ih := fun a2 w2 => plan_any hrf htr hsel hQ r last _ a2 w2 (down_set hd1 hjr) h3
    refine ⟨o, ho, ?_⟩
    simp only [wpList] at hg
    by_cases hw : Region.wanted o (yielded ops a1.tmps) = true
    · rw [if_pos hw] at hg ⊢
      rw [if_pos h1]
      exact hg.imp (fun h => Oper.wp_mono (fun a2 w2 hh => ⟨hh.1, ih a2 w2 hh.2⟩) (wp_onward h)) (fun h => ⟨h.1, h.2⟩)
    · rw [if_neg hw] at hg ⊢
      exact ih _ _ hg.2
end
/-- plan: what only reads, then one that may do more, and again; last: what only reads behind them. By the operations' numbers. -/
theorem wp_region_plan {P : Program} {id : Nat} {Q : Exit → Act → World → Prop} {a : Act} {w : World} {l : List Oper} (R : World → World → Prop) (hrf : ∀ w, R w w) (htr : ∀ a b c, R a b → R b c → R a c) (plan : List (List Nat × Nat)) (last : List Nat) (hm : P.follows .mixedOrders = true) (hB : planR .any l.toArray plan last = true)
    (hQ' : ∀ c a (d : Tmp) v w, Q (.panic c) (Act.put a (some d) v) w → Q (.panic c) a w)
    (h : wpPlan P l.toArray R Q l plan last a w.drew) : (Code.region id l.toArray true).wp P Q a w := by
  have hQ : ∀ c a d v w, Q (.panic c) (Act.put a d v) w → Q (.panic c) a w := fun c a d v w h => by
    cases d with
    | none => exact h
    | some d => exact hQ' c a d v w h
  simp only [planR, Bool.and_eq_true, beq_iff_eq] at hB
  obtain ⟨⟨hs, hn⟩, hB⟩ := hB
  refine wp_region_any hm (anyR_any _ _ _ _ (tl := plan.map (·.2)) (R := R) ?_)
  have H := plan_any (P := P) (md := .any) (tl := plan.map (·.2)) (Q := Q) (R := R) hrf htr (Region.noSelect_spec hs) hQ plan last (Array.replicate l.toArray.size false) a w.drew (fun j oj _ hj => ?_) hB h
  · rw [hn] at H
    exact H
  · exfalso
    rw [Array.getD_eq_getD_getElem?] at hj
    simp [Array.getElem?_replicate] at hj
    split at hj <;> simp at hj
/-- What was there is there. -/
def Ab (w w' : World) : Prop := Below w.heap.size w w'
theorem Ab.refl (w : World) : Ab w w := Below.refl _ _
theorem Ab.trans (a b c : World) (h : Ab a b) (k : Ab b c) : Ab a c := Below.trans h (k.mono h.size)
section
variable {P : Program} {ops : Array Oper} {rest : List Oper} {o : Oper} {a : Act} {C : World → Prop} {R : Act → Prop}
/-- A string from bytes, where a region is walked quietly. -/
theorem wpq_string (hgd : Region.wanted o (yielded ops a.tmps) = true) (src dst e : TypeId) (x : Operand) (ho : o.op = .convert src dst x)
    (hs : P.underlying src = some (.slice e)) (he : P.underlying e = some (.int .u8)) (hd : P.underlying dst = some .string) (A : Option Addr) (n c : Nat) (hx : a.eval x = .slice A n c) (bs : List UInt8) (hb : ∀ w, C w → Bytes w w.heap.size (.slice A n c) bs)
    (h : wpQuiet P ops C R rest (a.put o.dst (.string ⟨bs.toArray⟩))) : wpQuiet P ops C R (o :: rest) a :=
  BigFrame.wpQuiet_want hgd fun K hK => ⟨_, fun w hw => by
    have hr := run_string_bytes (P := P) (w := w) src dst e hs he hd (hb w hw)
    unfold Oper.quietAt execOp
    simp only [ho, hx, Sem.run_bind, hr, Result.andThen_ok, Sem.run_pure]
    exact ⟨rfl, rfl⟩, hK _ h⟩
/-- A cell, loaded under a guard that says yes. -/
theorem wpq_load_w (hgd : Region.wanted o (yielded ops a.tmps) = true) (ty : TypeId) (x : Operand) (hop : o.op = .load ty x) (p : Addr) (hx : a.eval x = .pointer (some p)) (v : Value) (hc : ∀ w, C w → w.cell? p = some v)
    (d : TypeDesc) (hu : P.underlying ty = some d) (hd : d.isRow = false)
    (h : wpQuiet P ops C R rest (a.put o.dst v)) : wpQuiet P ops C R (o :: rest) a :=
  BigFrame.wpQuiet_want hgd fun K hK => ⟨v, fun w hw => by
    have hagg : (isAgg ty).run P w = .ok false w := by
      unfold isAgg
      rw [Sem.run_bind, run_underlying hu w]
      cases d <;> simp_all
    have hl : (loadVar ty p).run P w = .ok v w := by
      simp [loadVar, Sem.run_bind, hagg, hc w hw]
    unfold Oper.quietAt execOp
    simp only [hop, hx, Instr.loadAt, Instr.sureAddr, Sem.run_bind, Sem.run_pure, Result.andThen_ok, hl]
    exact ⟨rfl, rfl⟩, hK _ h⟩
/-- An operation that its guard passes over. -/
theorem wpq_skip (hgd : Region.wanted o (yielded ops a.tmps) = false) (h : wpQuiet P ops C R rest (a.put o.dst undef)) : wpQuiet P ops C R (o :: rest) a := by
  simp only [wpQuiet]
  rw [if_neg (by rw [hgd]; exact Bool.false_ne_true)]
  exact h
end
section
variable {P : Program} {ops : Array Oper} {rest : List Oper} {o : Oper} {a : Act} {Q : Exit → Act → World → Prop} {w : World}
/-- A string from bytes, under a guard that says yes. -/
theorem wpl_string_w (src dst e : TypeId) (x : Operand) (ho : o.op = .convert src dst x) (hgd : Region.wanted o (yielded ops a.tmps) = true)
    (hs : P.underlying src = some (.slice e)) (he : P.underlying e = some (.int .u8)) (hd : P.underlying dst = some .string) (xv : Value) (hx : a.eval x = xv) (bs : List UInt8) (hb : Bytes w w.heap.size xv bs)
    (h : wpList P ops Q rest (a.put o.dst (.string ⟨bs.toArray⟩)) w) : wpList P ops Q (o :: rest) a w := by
  have hr := run_string_bytes (P := P) (w := w) src dst e hs he hd hb
  simp only [wpList]
  rw [if_pos hgd]
  refine .inl ?_
  unfold Oper.wp execOp
  simp only [ho, hx, Sem.run_bind, hr, Result.andThen_ok, Sem.run_pure]
  exact h
end
theorem Rd.ab {w w' : World} {S : Nat → Prop} {A : Option Addr} {n c : Nat} {bs : List UInt8} (h : Rd w S A n c bs) (hb : Ab w w') : Rd w' S A n c bs := h.fr (Fr.of_below (F := fun _ => False) hb) (fun _ _ h => h)
theorem ab_drew (w : World) : Ab w w.drew := (Fr.refl (fun _ => False) w).drew.below (fun _ h => h.elim) (Nat.le_refl _)
end Go.Pl

/-
  A region that draws its order, walked once in an order of the prover's: first operations that hold in every world, then operations that only read, then the others, each of which stands alone when its turn comes.
-/
import Derived.Test.YtajohibeoicepaaDoorReg
namespace Go.Pl
theorem value_only {P : Program} {w w' : World} {n : Next} (s : Sem Value) (h : ((do pure (Next.value (← s))) : Sem Next).run P w = .ok n w') : ∃ v, n = .value v := by
  rw [Sem.run_bind] at h
  cases hs : s.run P w with
  | ok v w1 => rw [hs] at h; simp at h; exact ⟨v, h.1.symm⟩
  | halt e w1 => rw [hs] at h; simp at h
theorem noEnter_value {P : Program} {w w' : World} {n : Next} (o : Oper) (ρ : Operand → Value) (h : noEnter o = true) (hr : (execOp ρ o).run P w = .ok n w') : n ≠ .skip := by
  unfold noEnter at h
  unfold execOp at hr
  split at h <;> rename_i he <;> (try (simp at h; done)) <;> simp only [he] at hr
  any_goals (first | (intro hn; obtain ⟨v, hv⟩ := value_only _ hr; rw [hv] at hn; cases hn; done) | (intro hn; rw [hn] at hr; simp at hr; done))
  case h_13 =>
    intro hn
    rw [hn] at hr
    split at hr <;> first
      | (simp at hr; done)
      | (simp [runtimePanic, goPanic, go_sem] at hr; done)
      | (split at hr <;> first
          | (simp [runtimePanic, goPanic, go_sem] at hr; done)
          | (simp at hr; done)
          | (rw [Sem.run_bind] at hr
             simp only [run_program, Result.andThen_ok, Sem.run_bind] at hr
             revert hr
             generalize (nilAhead _ _ _ _).run P w = r
             intro hr
             cases r <;> simp at hr
             split at hr <;> simp at hr))
  all_goals
    intro hn
    unfold resolve at hr
    simp only [Sem.run_bind, Sem.run_pure, Result.andThen_ok, invoke, builtin] at hr
    obtain ⟨v, hv⟩ := value_only _ (by rw [Sem.run_bind]; simpa using hr)
    rw [hv] at hn
    cases hn
section
variable {P : Program} {ops : Array Oper} {tl : List Nat} {Q : Exit → Act → World → Prop} {md : Region.Mode}
/-- Operation i, one of the tail or one that yields its value and leaves the world. -/
def stepK (P : Program) (ops : Array Oper) (tl : List Nat) (Q : Exit → Act → World → Prop) (i : Nat) (K : Act → World → Prop) (a : Act) (w : World) : Prop :=
  ∃ o, ops[i]? = some o ∧ o.guard = none ∧
    (if tl.contains i = true then (o.wp P a w K Q ∨ (o.asks P a w ∧ LetsOut Q)) else ∃ v, (execOp a.eval o).run P w = .ok (.value v) w ∧ K (a.put o.dst v) w)
def anyK (P : Program) (md : Region.Mode) (ops : Array Oper) (tl : List Nat) (Q : Exit → Act → World → Prop) : Nat → Array Bool → Act → World → Prop
  | 0, L, a, w => Region.ready md ops L = [] ∧ Q .normal a w
  | fuel + 1, L, a, w => (Region.ready md ops L = [] → Q .normal a w) ∧ ∀ i ∈ Region.ready md ops L, stepK P ops tl Q i (anyK P md ops tl Q fuel (L.setIfInBounds i true)) a w
theorem anyK_any : ∀ (fuel : Nat) (L : Array Bool) (a : Act) (w : World), anyK P md ops tl Q fuel L a w → wpAny P md ops Q fuel L a w
  | 0, _, _, _, h => h
  | fuel + 1, L, a, w, h => by
    refine ⟨h.1, fun i hi => ?_⟩
    obtain ⟨o, ho, hg, hk⟩ := h.2 i hi
    unfold wpOp
    simp only [ho]
    rw [if_pos (by simp [Region.wanted, hg])]
    split at hk
    · exact hk.imp (Oper.wp_mono fun a w => anyK_any fuel _ a w) id
    · obtain ⟨v, hr, hn⟩ := hk
      refine .inl ?_
      unfold Oper.wp
      rw [hr]
      exact anyK_any fuel _ _ _ hn
def Down (md : Region.Mode) (ops : Array Oper) (L : Array Bool) : Prop := ∀ j oj, ops[j]? = some oj → L.getD j false = true → ∀ e ∈ oj.after, Region.binds md e = true → L.getD e.on false = true
/-- Does operation j wait for operation i? -/
def reach (md : Region.Mode) (ops : Array Oper) : Nat → Nat → Nat → Bool
  | 0, _, _ => false
  | f + 1, j, i => match ops[j]? with
    | some o => o.after.any fun e => Region.binds md e && (e.on == i || reach md ops f e.on i)
    | none => false
theorem reach_listed {L : Array Bool} (hd : Down md ops L) : ∀ (f j i : Nat), L.getD j false = true → reach md ops f j i = true → L.getD i false = true
  | 0, _, _, _, h => by simp [reach] at h
  | f + 1, j, i, hj, h => by
    unfold reach at h
    split at h
    · rename_i o ho
      rw [Array.any_eq_true] at h
      obtain ⟨k, hk, he⟩ := h
      simp only [Bool.and_eq_true, Bool.or_eq_true, beq_iff_eq] at he
      have hl := hd j o ho hj o.after[k] (Array.getElem_mem hk) he.1
      rcases he.2 with e | e
      · rw [← e]; exact hl
      · exact reach_listed hd f _ _ hl e
    · cases h
theorem not_reach {L : Array Bool} (hd : Down md ops L) {j i : Nat} (hj : j ∈ Region.ready md ops L) (hi : L.getD i false = false) (f : Nat) : reach md ops f j i = false := by
  obtain ⟨_, o, ho, hall⟩ := mem_ready.1 hj
  cases f with
  | zero => rfl
  | succ f =>
    cases hr : reach md ops (f + 1) j i with
    | false => rfl
    | true =>
      unfold reach at hr
      simp only [ho] at hr
      rw [Array.any_eq_true] at hr
      obtain ⟨k, hk, he⟩ := hr
      simp only [Bool.and_eq_true, Bool.or_eq_true, beq_iff_eq] at he
      have hl := hall o.after[k] (Array.getElem_mem hk) he.1
      rcases he.2 with e | e
      · rw [e, hi] at hl; cases hl
      · have := reach_listed hd f _ _ hl e
        rw [hi] at this; cases this
theorem down_set {L : Array Bool} (hd : Down md ops L) {i : Nat} (hi : i ∈ Region.ready md ops L) : Down md ops (L.setIfInBounds i true) := by
  intro j oj hoj hj e he hb
  by_cases hij : i = j
  · subst hij
    obtain ⟨_, o, ho, hall⟩ := mem_ready.1 hi
    rw [ho] at hoj
    cases hoj
    exact getD_set_true (hall e he hb)
  · rw [getD_set_ne false hij] at hj
    exact getD_set_true (hd j oj hoj hj e he hb)
theorem wp_put {o : Oper} {a : Act} {w : World} {d : Option Tmp} {v : Value} {K K' : Act → World → Prop} (hQ : ∀ c a w, Q (.panic c) (a.put d v) w → Q (.panic c) a w) (he : execOp (a.put d v).eval o = execOp a.eval o) (hne : ∀ x, d = some x → o.dst ≠ some x)
    (hK : ∀ (b : Act) u w', b.tmps = a.tmps → K ((b.put o.dst u).put d v) w' → K' (b.put o.dst u) w') (h : o.wp P (a.put d v) w K Q) : o.wp P a w K' Q := by
  unfold Oper.wp at *
  rw [he] at h
  generalize (execOp a.eval o).run P w = r at *
  have comm : ∀ (b : Act) u, (b.put d v).put o.dst u = (b.put o.dst u).put d v := fun b u => Act.put_comm b v u hne
  cases r with
  | ok n w' =>
    cases n <;> simp only [Oper.upon] at h ⊢
    case value u => exact hK a u _ rfl (by rw [← comm]; exact h)
    case skip => exact hK a _ _ rfl (by rw [← comm]; exact h)
    case defer x => exact hK { a with defers := x :: a.defers } _ _ rfl (by rw [← comm, ← Act.put_defers]; exact h)
    case enter f args =>
      refine Calls.mono h fun e w'' hh => ?_
      cases e with
      | returned u => exact hK a u _ rfl (by rw [← comm]; exact hh)
      | panicked c => exact hQ _ _ _ hh
      | outgrown => exact hh
    case row r args => exact Rows.mono h fun u w'' hh => hK a u _ rfl (by rw [← comm]; exact hh)
  | halt x w' =>
    cases x <;> simp only [Oper.upon] at h ⊢
    exact hQ _ _ _ h
theorem first {i : Nat} {oi : Oper} {v : Value} {A : World → Prop} (hi : ops[i]? = some oi) (hgi : oi.guard = none) (hnt : tl.contains i = false) (hsel : ∀ (j : Nat) (o : Oper) cs b, ops[j]? = some o → o.op ≠ .select cs b)
    (hQ : ∀ c a d v w, Q (.panic c) (Act.put a d v) w → Q (.panic c) a w) :
    ∀ (fuel : Nat) (L : Array Bool) (a : Act) (w : World), Down md ops L →
      (∀ j oj, ops[j]? = some oj → j ≠ i → L.getD j true = false → reach md ops ops.size j i = false → oi.apart ops oj = true ∧ (tl.contains j = true → ∀ w', A w')) →
      i ∈ Region.ready md ops L → A w → (∀ w', A w' → (execOp a.eval oi).run P w' = .ok (.value v) w') →
      anyK P md ops tl Q fuel (L.setIfInBounds i true) (a.put oi.dst v) w → anyK P md ops tl Q (fuel + 1) L a w := by
  intro fuel
  induction fuel with
  | zero =>
    intro L a w hd hfree hr hA hv H
    refine ⟨fun h => (by rw [h] at hr; cases hr), fun j hj => ?_⟩
    by_cases hji : j = i
    · subst hji
      exact ⟨oi, hi, hgi, by rw [if_neg (by rw [hnt]; exact Bool.false_ne_true)]; exact ⟨v, hv w hA, H⟩⟩
    · have := ready_mono hj hji
      rw [H.1] at this
      cases this
  | succ fuel ih =>
    intro L a w hd hfree hr hA hv H
    refine ⟨fun h => (by rw [h] at hr; cases hr), fun j hj => ?_⟩
    by_cases hji : j = i
    · subst hji
      exact ⟨oi, hi, hgi, by rw [if_neg (by rw [hnt]; exact Bool.false_ne_true)]; exact ⟨v, hv w hA, H⟩⟩
    · obtain ⟨oj, hoj, hgj, hk⟩ := H.2 j (ready_mono hj hji)
      have hil : L.getD i false = false := by
        have h0 := (mem_ready.1 hr).1
        rcases Nat.lt_or_ge i L.size with h' | h'
        · simp [h'] at h0 ⊢; exact h0
        · simp [Array.getElem?_eq_none h'] at h0
      obtain ⟨hap, hAe⟩ := hfree j oj hoj hji (mem_ready.1 hj).1 (not_reach hd hj hil _)
      obtain ⟨h1, h2, h3⟩ := Oper.apart_spec hap
      have hex : execOp (a.put oi.dst v).eval oj = execOp a.eval oj := execOp_put oj (fun cs b => hsel j oj cs b hoj) a oi.dst v h1
      have hfree' : ∀ k ok, ops[k]? = some ok → k ≠ i → (L.setIfInBounds j true).getD k true = false → reach md ops ops.size k i = false → oi.apart ops ok = true ∧ (tl.contains k = true → ∀ w', A w') := fun k ok hk hki hun hno => by
        refine hfree k ok hk hki ?_ hno
        by_cases hjk : j = k
        · subst hjk; exact (mem_ready.1 hj).1
        · rw [getD_set_ne true hjk] at hun; exact hun
      have hval : ∀ (b : Act) u, b.tmps = a.tmps → ∀ w', A w' → (execOp (b.put oj.dst u).eval oi).run P w' = .ok (.value v) w' := fun b u hb w' hw' => by
        have e1 : execOp (b.put oj.dst u).eval oi = execOp b.eval oi := execOp_put oi (fun cs b => hsel i oi cs b hi) b oj.dst u h3
        have e2 : b.eval = a.eval := funext fun x => by cases x <;> simp [Act.eval, hb]
        rw [e1, e2]
        exact hv w' hw'
      refine ⟨oj, hoj, hgj, ?_⟩
      split at hk
      · rename_i htj
        have hAA := hAe htj
        rw [if_pos htj]
        refine hk.imp (wp_put (fun c a w => hQ c a oi.dst v w) hex h2 fun b u w' hb hh => ?_) (fun h => ⟨by have := h.1; unfold Oper.asks at this ⊢; rw [hex] at this; exact this, h.2⟩)
        refine ih (L.setIfInBounds j true) _ w' (down_set hd hj) hfree' (ready_mono hr (Ne.symm hji)) (hAA w') (hval b u hb) ?_
        rw [Array.setIfInBounds_comm _ _ hji]
        exact hh
      · rename_i htj
        rw [if_neg htj]
        obtain ⟨u, hu, hn⟩ := hk
        rw [hex] at hu
        refine ⟨u, hu, ih (L.setIfInBounds j true) _ w (down_set hd hj) hfree' (ready_mono hr (Ne.symm hji)) hA (hval a u rfl) ?_⟩
        rw [Array.setIfInBounds_comm _ _ hji, ← Act.put_comm a v u h2]
        exact hn
/-! ### What each operation waits for, as one number an operation (the operations in their order, each once) -/
def maskOf (md : Region.Mode) (o : Oper) (acc : List Nat) : Nat := o.after.toList.foldl (fun m e => if Region.binds md e = true then m ||| 2 ^ e.on ||| acc.getD e.on 0 else m) 0
def masksFrom (md : Region.Mode) : List Oper → List Nat → List Nat
  | [], acc => acc
  | o :: r, acc => masksFrom md r (acc ++ [maskOf md o acc])
def masks (md : Region.Mode) (ops : Array Oper) : List Nat := masksFrom md ops.toList []
theorem fold_mask (md : Region.Mode) (acc : List Nat) (i : Nat) : ∀ (l : List Edge) (m : Nat), (l.foldl (fun m e => if Region.binds md e = true then m ||| 2 ^ e.on ||| acc.getD e.on 0 else m) m).testBit i = true →
    m.testBit i = true ∨ ∃ e ∈ l, Region.binds md e = true ∧ (e.on = i ∨ (acc.getD e.on 0).testBit i = true)
  | [], m, h => .inl h
  | e :: l, m, h => by
    rw [List.foldl_cons] at h
    rcases fold_mask md acc i l _ h with h1 | ⟨e', he, hb, hh⟩
    · split at h1
      · rename_i hb
        rw [Nat.testBit_or, Nat.testBit_or, Bool.or_eq_true, Bool.or_eq_true] at h1
        rcases h1 with (h2 | h2) | h2
        · exact .inl h2
        · refine .inr ⟨e, List.mem_cons_self, hb, .inl ?_⟩
          rw [Nat.testBit_two_pow] at h2
          exact of_decide_eq_true h2
        · exact .inr ⟨e, List.mem_cons_self, hb, .inr h2⟩
      · exact .inl h1
    · exact .inr ⟨e', List.mem_cons_of_mem _ he, hb, hh⟩
theorem reach_up : ∀ (f j i : Nat), reach md ops f j i = true → reach md ops (f + 1) j i = true
  | 0, _, _, h => by simp [reach] at h
  | f + 1, j, i, h => by
    unfold reach at h ⊢
    split at h
    · rename_i o ho
      rw [Array.any_eq_true] at h ⊢
      obtain ⟨k, hk, he⟩ := h
      refine ⟨k, hk, ?_⟩
      simp only [Bool.and_eq_true, Bool.or_eq_true, beq_iff_eq] at he ⊢
      exact ⟨he.1, he.2.imp id (reach_up f _ _)⟩
    · cases h
theorem reach_le {f g j i : Nat} (h : reach md ops f j i = true) (hfg : f ≤ g) : reach md ops g j i = true := by
  obtain ⟨d, rfl⟩ : ∃ d, g = f + d := ⟨g - f, by omega⟩
  clear hfg
  induction d with
  | zero => exact h
  | succ d ih => exact reach_up _ _ _ ih
theorem masksFrom_reach (md : Region.Mode) (ops : Array Oper) : ∀ (r : List Oper) (acc : List Nat) (pre : List Oper), ops.toList = pre ++ r → pre.length = acc.length →
    (∀ j i, (acc.getD j 0).testBit i = true → j < acc.length ∧ reach md ops (j + 1) j i = true) → ∀ j i, ((masksFrom md r acc).getD j 0).testBit i = true → reach md ops (j + 1) j i = true
  | [], acc, pre, _, _, hs => fun j i h => (hs j i h).2
  | o :: r, acc, pre, hp, hl, hs => by
    refine masksFrom_reach md ops r _ (pre ++ [o]) (by simp [hp]) (by simp [hl]) fun j i h => ?_
    rw [List.getD_eq_getElem?_getD, List.getElem?_append] at h
    split at h
    · rename_i hj
      rw [← List.getD_eq_getElem?_getD] at h
      exact ⟨by simp; omega, (hs j i h).2⟩
    · rename_i hj
      by_cases hj' : j = acc.length
      · subst hj'
        rw [Nat.sub_self] at h
        simp only [List.getElem?_cons_zero, Option.getD_some] at h
        rcases fold_mask md acc i _ 0 h with h1 | ⟨e, he, hb, hh⟩
        · simp at h1
        · refine ⟨by simp, ?_⟩
          have ho : ops[acc.length]? = some o := by
            rw [← Array.getElem?_toList, hp, ← hl, List.getElem?_append_right (Nat.le_refl _), Nat.sub_self]; rfl
          unfold reach
          simp only [ho]
          rw [Array.any_eq_true]
          obtain ⟨k, hk, hke⟩ := List.getElem_of_mem he
          refine ⟨k, by simpa using hk, ?_⟩
          have hke' : o.after[k]'(by simpa using hk) = e := by rw [← hke, Array.getElem_toList]
          rw [hke']
          simp only [Bool.and_eq_true, Bool.or_eq_true, beq_iff_eq]
          refine ⟨hb, hh.imp id fun h2 => ?_⟩
          obtain ⟨h3, h4⟩ := hs _ _ h2
          exact reach_le h4 (by omega)
      · rw [List.getElem?_eq_none (by simp; omega)] at h
        simp at h
theorem mask_reach {j i : Nat} (hj : j < ops.size) (h : ((masks md ops).getD j 0).testBit i = true) : reach md ops ops.size j i = true :=
  reach_le (masksFrom_reach md ops ops.toList [] [] rfl rfl (fun j i h => by simp at h) j i h) (by omega)
/-! ### The order -/
def ordPick (l : List Oper) : List Nat → List Oper
  | [] => []
  | i :: r => (l[i]?).toList ++ ordPick l r
def freeB (md : Region.Mode) (ops : Array Oper) (M : List Nat) (tl : List Nat) (still : Bool) (i : Nat) (L : Array Bool) : Bool :=
  match ops[i]? with
  | some oi => noEnter oi && oi.guard.isNone && !tl.contains i && (Region.ready md ops L).contains i && (List.range ops.size).all fun j =>
      j == i || L.getD j true || (M.getD j 0).testBit i || (match ops[j]? with | some oj => oi.apart ops oj && !(still && tl.contains j) | none => true)
  | none => false
def tailB (md : Region.Mode) (ops : Array Oper) (tl : List Nat) : List Nat → Array Bool → Bool
  | [], L => Region.ready md ops L == []
  | i :: r, L => tl.contains i && (Region.ready md ops L == [i]) && ((ops[i]?).map (·.guard.isNone)).getD false && tailB md ops tl r (L.setIfInBounds i true)
def headB (md : Region.Mode) (ops : Array Oper) (M : List Nat) (tl : List Nat) : List Nat → Array Bool → Bool
  | [], L => tailB md ops tl tl L
  | i :: r, L => freeB md ops M tl true i L && headB md ops M tl r (L.setIfInBounds i true)
def pureB (md : Region.Mode) (ops : Array Oper) (M : List Nat) (tl hd : List Nat) : List Nat → Array Bool → Bool
  | [], L => headB md ops M tl hd L
  | i :: r, L => freeB md ops M tl false i L && pureB md ops M tl hd r (L.setIfInBounds i true)
def ordB (md : Region.Mode) (ops : Array Oper) (pu hd tl : List Nat) : Bool :=
  Region.noSelect ops && (pu.length + hd.length + tl.length == ops.size) && pureB md ops (masks md ops) tl hd pu (Array.replicate ops.size false)
theorem free_spec {still : Bool} {i : Nat} {L : Array Bool} (h : freeB md ops (masks md ops) tl still i L = true) : ∃ oi, ops[i]? = some oi ∧ noEnter oi = true ∧ oi.guard = none ∧ tl.contains i = false ∧ i ∈ Region.ready md ops L ∧
    ∀ j oj, ops[j]? = some oj → j ≠ i → L.getD j true = false → reach md ops ops.size j i = false → oi.apart ops oj = true ∧ (still = true → tl.contains j = false) := by
  unfold freeB at h
  split at h
  · rename_i oi hoi
    simp only [Bool.and_eq_true, Option.isNone_iff_eq_none, Bool.not_eq_true', List.contains_iff_mem, List.all_eq_true, List.mem_range, Bool.or_eq_true, beq_iff_eq] at h
    obtain ⟨⟨⟨⟨h1, h2⟩, h3⟩, h4⟩, h5⟩ := h
    refine ⟨oi, hoi, h1, h2, by simpa using h3, h4, fun j oj hoj hji hl hr => ?_⟩
    have hlt : j < ops.size := (Array.getElem?_eq_some_iff.1 hoj).1
    rcases h5 j hlt with ((e | e) | e) | e
    · exact (hji e).elim
    · rw [e] at hl; cases hl
    · rw [mask_reach hlt e] at hr; cases hr
    · simp only [hoj, Bool.and_eq_true, Bool.not_eq_true', Bool.and_eq_false_iff] at e
      exact ⟨e.1, fun hs => e.2.resolve_left (by simp [hs])⟩
  · cases h
theorem quiet_value {C : World → Prop} {o : Oper} {a : Act} {next : Act → Prop} (hn : noEnter o = true) (h : o.quiet P a C next) : ∃ v, (∀ w, C w → (execOp a.eval o).run P w = .ok (.value v) w) ∧ next (a.put o.dst v) := by
  obtain ⟨v, hv, hk⟩ := h
  refine ⟨v, fun w hw => ?_, hk⟩
  have hq := hv w hw
  unfold Oper.quietAt at hq
  cases hr : (execOp a.eval o).run P w with
  | halt e w' => rw [hr] at hq; exact hq.elim
  | ok n w' =>
    rw [hr] at hq
    cases n with
    | value u => obtain ⟨h1, h2⟩ := hq; rw [h1, h2]
    | skip => exact (noEnter_value o a.eval hn hr rfl).elim
    | enter f args => exact (not_enter o a.eval hn hr).elim
    | _ => exact hq.elim
theorem quiet_step {C : World → Prop} {o : Oper} {l : List Oper} {a : Act} {R : Act → Prop} (hg : o.guard = none) (h : wpQuiet P ops C R (o :: l) a) : o.quiet P a C (wpQuiet P ops C R l) := by
  simp only [wpQuiet] at h
  rwa [if_pos (by simp [Region.wanted, hg])] at h
theorem list_step {o : Oper} {l : List Oper} {a : Act} {w : World} (hg : o.guard = none) (h : wpList P ops Q (o :: l) a w) : o.wp P a w (wpList P ops Q l) Q ∨ (o.asks P a w ∧ LetsOut Q) := by
  simp only [wpList] at h
  rwa [if_pos (by simp [Region.wanted, hg])] at h
theorem tail_any : ∀ (r : List Nat) (L : Array Bool) (a : Act) (w : World), tailB md ops tl r L = true → wpList P ops Q (ordPick ops.toList r) a w → anyK P md ops tl Q r.length L a w
  | [], L, a, w, hB, h => ⟨by simpa [tailB] using hB, h⟩
  | i :: r, L, a, w, hB, h => by
    simp only [tailB, Bool.and_eq_true, beq_iff_eq] at hB
    obtain ⟨⟨⟨h0, h1⟩, h2⟩, h3⟩ := hB
    cases ho : ops[i]? with
    | none => rw [ho] at h2; simp at h2
    | some o =>
      have hg : o.guard = none := by rw [ho] at h2; simpa using h2
      have hp : ordPick ops.toList (i :: r) = o :: ordPick ops.toList r := by simp [ordPick, ho]
      rw [hp] at h
      refine ⟨fun e => (by rw [h1] at e; cases e), fun j hj => ?_⟩
      rw [h1] at hj
      obtain rfl : j = i := by simpa using hj
      refine ⟨o, ho, hg, ?_⟩
      rw [if_pos h0]
      exact (list_step hg h).imp (Oper.wp_mono fun a w hh => tail_any r _ a w h3 hh) id
theorem head_any (hsel : ∀ (j : Nat) (o : Oper) cs b, ops[j]? = some o → o.op ≠ .select cs b) (hQ : ∀ c a d v w, Q (.panic c) (Act.put a d v) w → Q (.panic c) a w) {C : World → Prop} {w : World} (hC : C w) :
    ∀ (r : List Nat) (L : Array Bool) (a : Act), Down md ops L → headB md ops (masks md ops) tl r L = true → wpQuiet P ops C (fun a2 => wpList P ops Q (ordPick ops.toList tl) a2 w) (ordPick ops.toList r) a → anyK P md ops tl Q (r.length + tl.length) L a w
  | [], L, a, _, hB, h => by simpa using tail_any tl L a w hB h
  | i :: r, L, a, hd, hB, h => by
    simp only [headB, Bool.and_eq_true] at hB
    obtain ⟨oi, hoi, hne, hg, hnt, hr, hf⟩ := free_spec hB.1
    have hp : ordPick ops.toList (i :: r) = oi :: ordPick ops.toList r := by simp [ordPick, hoi]
    rw [hp] at h
    obtain ⟨v, hv, hk⟩ := quiet_value hne (quiet_step hg h)
    have ih := head_any hsel hQ hC r _ _ (down_set hd hr) hB.2 hk
    rw [show (i :: r).length + tl.length = (r.length + tl.length) + 1 by simp; omega]
    refine first (A := fun w' => w' = w) hoi hg hnt hsel hQ _ L a w hd (fun j oj hoj hji hun hno => ?_) hr rfl (fun w' e => by subst e; exact hv _ hC) ih
    obtain ⟨h1, h2⟩ := hf j oj hoj hji hun hno
    exact ⟨h1, fun e => by rw [h2 rfl] at e; cases e⟩
theorem pure_any (hsel : ∀ (j : Nat) (o : Oper) cs b, ops[j]? = some o → o.op ≠ .select cs b) (hQ : ∀ c a d v w, Q (.panic c) (Act.put a d v) w → Q (.panic c) a w) {C : World → Prop} {w : World} (hC : C w) (hd : List Nat) :
    ∀ (r : List Nat) (L : Array Bool) (a : Act), Down md ops L → pureB md ops (masks md ops) tl hd r L = true → wpQuiet P ops (fun _ => True) (fun a1 => wpQuiet P ops C (fun a2 => wpList P ops Q (ordPick ops.toList tl) a2 w) (ordPick ops.toList hd) a1) (ordPick ops.toList r) a →
      anyK P md ops tl Q (r.length + hd.length + tl.length) L a w
  | [], L, a, hdn, hB, h => by simpa using head_any hsel hQ hC hd L a hdn hB h
  | i :: r, L, a, hdn, hB, h => by
    simp only [pureB, Bool.and_eq_true] at hB
    obtain ⟨oi, hoi, hne, hg, hnt, hr, hf⟩ := free_spec hB.1
    have hp : ordPick ops.toList (i :: r) = oi :: ordPick ops.toList r := by simp [ordPick, hoi]
    rw [hp] at h
    obtain ⟨v, hv, hk⟩ := quiet_value hne (quiet_step hg h)
    have ih := pure_any hsel hQ hC hd r _ _ (down_set hdn hr) hB.2 hk
    rw [show (i :: r).length + hd.length + tl.length = (r.length + hd.length + tl.length) + 1 by simp; omega]
    exact first (A := fun _ => True) hoi hg hnt hsel hQ _ L a w hdn (fun j oj hoj hji hun hno => ⟨(hf j oj hoj hji hun hno).1, fun _ _ => trivial⟩) hr trivial (fun w' _ => hv w' trivial) ih
end
/-- pu: the operations that hold in every world; hd: those that only read; tl: the others. Each list by the operations' numbers. -/
theorem wp_region_ord {P : Program} {id : Nat} {Q : Exit → Act → World → Prop} {a : Act} {w : World} {l : List Oper} (pu hd tl : List Nat) (hm : P.follows .mixedOrders = true) (hB : ordB .any l.toArray pu hd tl = true)
    (hQ' : ∀ c a (d : Tmp) v w, Q (.panic c) (Act.put a (some d) v) w → Q (.panic c) a w)
    (h : wpQuiet P l.toArray (fun _ => True) (fun a1 => wpQuiet P l.toArray (fun w' => ∃ n, w' = w.drewN n) (fun a2 => wpList P l.toArray Q (ordPick l tl) a2 w.drew) (ordPick l hd) a1) (ordPick l pu) a) : (Code.region id l.toArray true).wp P Q a w := by
  have hQ : ∀ c a d v w, Q (.panic c) (Act.put a d v) w → Q (.panic c) a w := fun c a d v w h => by
    cases d with
    | none => exact h
    | some d => exact hQ' c a d v w h
  simp only [ordB, Bool.and_eq_true, beq_iff_eq] at hB
  obtain ⟨⟨hs, hn⟩, hB⟩ := hB
  refine wp_region_any hm (anyK_any _ _ _ _ (tl := tl) ?_)
  have H := pure_any (P := P) (md := .any) (tl := tl) (Q := Q) (w := w.drew) (Region.noSelect_spec hs) hQ (C := fun w' => ∃ n, w' = w.drewN n) ⟨1, rfl⟩ hd pu (Array.replicate l.toArray.size false) a (fun j oj _ hj => ?_) hB h
  · rw [hn] at H
    exact H
  · exfalso
    rw [Array.getD_eq_getD_getElem?] at hj
    simp [Array.getElem?_replicate] at hj
    split at hj <;> simp at hj
end Go.Pl

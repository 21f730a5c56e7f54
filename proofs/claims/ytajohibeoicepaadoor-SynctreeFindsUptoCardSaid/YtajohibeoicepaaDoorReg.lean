/-
  A region that draws its order, whose first n operations only read and call no Go function, and whose others stand in one forced order behind them: the first n by the cheap quiet walk, the others as they stand.
-/
import Derived.StillTailTactics
import Derived.BigQuiet
import Derived.WalkKit
namespace Go.Pl
theorem value_not_enter {P : Program} {w w' : World} {f : FuncId} {args : Array Value} (s : Sem Value) : ((do pure (Next.value (← s))) : Sem Next).run P w ≠ .ok (.enter f args) w' := by
  intro h
  rw [Sem.run_bind] at h
  cases hs : s.run P w with
  | ok v w1 => rw [hs] at h; simp at h
  | halt e w1 => rw [hs] at h; simp at h
theorem unit_not_enter {P : Program} {w w' : World} {f : FuncId} {args : Array Value} (s : Sem Unit) : ((do s; pure Next.skip) : Sem Next).run P w ≠ .ok (.enter f args) w' := by
  intro h
  rw [Sem.run_bind] at h
  cases hs : s.run P w with
  | ok v w1 => rw [hs] at h; simp at h
  | halt e w1 => rw [hs] at h; simp at h
/-- Operations that never enter a Go function. -/
def noEnter (o : Oper) : Bool :=
  match o.op with
  | .move _ | .assign _ | .load .. | .binOp .. | .unOp .. | .convert .. | .fieldAddr .. | .field .. | .indexAddr .. | .index .. | .slice .. | .extract .. | .nilCheck _ => true
  | .call { callee := .builtin .len, .. } | .call { callee := .builtin .min, .. } | .call { callee := .builtin .max, .. } | .call { callee := .builtin .cap, .. } => true
  | _ => false
theorem not_enter {P : Program} {w w' : World} {f : FuncId} {args : Array Value} (o : Oper) (ρ : Operand → Value) (h : noEnter o = true) : (execOp ρ o).run P w ≠ .ok (.enter f args) w' := by
  unfold noEnter at h
  unfold execOp
  split at h <;> rename_i he <;> (try (simp at h; done)) <;> simp only [he]
  any_goals (first | exact value_not_enter _ | (intro hh; simp at hh; done))
  case h_13 =>
    split <;> first
      | (intro hh; simp at hh; done)
      | (simp [runtimePanic, goPanic, go_sem]; done)
      | (split <;> first
          | (simp [runtimePanic, goPanic, go_sem]; done)
          | (intro hh; simp at hh; done)
          | (intro hh
             rw [Sem.run_bind] at hh
             simp only [run_program, Result.andThen_ok, Sem.run_bind] at hh
             revert hh
             generalize (nilAhead _ _ _ _).run P w = r
             intro hh
             cases r <;> simp at hh
             split at hh <;> simp at hh))
  all_goals
    unfold resolve
    simp only [Sem.run_bind, Sem.run_pure, Result.andThen_ok, invoke, builtin]
    exact value_not_enter _
theorem still_of_quiet {P : Program} {ops : Array Oper} {C : World → Prop} {w : World} {Q : Act → Prop} (hw : C w) : ∀ (l : List Oper) (a : Act), l.all noEnter = true → wpQuiet P ops C Q l a → wpStill P ops w Q l a
  | [], _, _, h => h
  | o :: rest, a, hn, h => by
    simp only [List.all_cons, Bool.and_eq_true] at hn
    simp only [wpQuiet, wpStill] at h ⊢
    split
    · rename_i hwd
      rw [if_pos hwd] at h
      obtain ⟨v, hv, hnext⟩ := h
      have hq := hv w hw
      unfold Oper.quietAt at hq
      unfold Oper.still
      cases hr : (execOp a.eval o).run P w with
      | halt e w' => rw [hr] at hq; exact hq.elim
      | ok n w' =>
        rw [hr] at hq
        cases n with
        | value u =>
          obtain ⟨h1, h2⟩ := hq
          subst h2
          exact ⟨h1, still_of_quiet hw rest _ hn.2 hnext⟩
        | skip =>
          obtain ⟨h1, h2⟩ := hq
          subst h2
          exact ⟨h1, still_of_quiet hw rest _ hn.2 hnext⟩
        | enter f args => exact (not_enter o a.eval hn.1 hr).elim
        | _ => exact hq.elim
    · rename_i hwd
      rw [if_neg hwd] at h
      exact still_of_quiet hw rest _ hn.2 h
theorem wp_region_tail {P : Program} {id : Nat} {Q : Exit → Act → World → Prop} {a : Act} {w : World} {l : List Oper} (n : Nat) (hm : P.follows .mixedOrders = true) (hB : Region.lexTailB .any l.toArray n = true) (hn : (l.take n).all noEnter = true)
    (h : wpQuiet P l.toArray (fun w' => ∃ m, w' = w.drewN m) (fun a' => wpList P l.toArray Q (l.drop n) a' w.drew) (l.take n) a) : (Code.region id l.toArray true).wp P Q a w :=
  wp_region_still_tail n hm hB (still_of_quiet (C := fun w' => ∃ m, w' = w.drewN m) ⟨1, rfl⟩ _ _ hn h)
/-- A callee that leaves the world alone, met in a quiet region. -/
theorem quiet1 {P : Program} {f : FuncId} {args : Array Value} {w : World} {n : Nat} {v : Value}
    (h : Calls P f args (w.drewN n) fun e w' => e = .returned v ∧ w.drewN n = w') : Calls P f args (w.drewN n) fun e w'' => e = .returned v ∧ ∃ m, w'' = w.drewN m :=
  h.mono fun _ _ hh => ⟨hh.1, n, hh.2.symm⟩
/-- The same in a quiet region behind a quiet region. -/
theorem quiet2 {P : Program} {f : FuncId} {args : Array Value} {w : World} {a n : Nat} {v : Value}
    (h : Calls P f args (w.drewN (a + n)) fun e w' => e = .returned v ∧ w.drewN (a + n) = w') : Calls P f args (w.drewN (a + n)) fun e w'' => e = .returned v ∧ ∃ m, w'' = w.drewN (a + m) :=
  h.mono fun _ _ hh => ⟨hh.1, n, hh.2.symm⟩
end Go.Pl

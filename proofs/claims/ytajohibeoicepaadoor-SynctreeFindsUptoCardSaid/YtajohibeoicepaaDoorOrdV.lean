/-
  A region that draws its order, walked by a plan in which late operations (an append to a row, a store) may change what was read ahead of them: they wait for it.
-/
import Derived.Test.YtajohibeoicepaaDoorOrdT
namespace Go.Pl
open Go.RowKit
section
variable {P : Program} {ops : Array Oper} {tl lt : List Nat} {Q : Exit → Act → World → Prop} {md : Region.Mode} {R : World → World → Prop}
/-- Operation i: passed over by its guard, one of the tail (behind it R holds) or one that yields its value and leaves the world. -/
def stepV (P : Program) (ops : Array Oper) (tl lt : List Nat) (R : World → World → Prop) (Q : Exit → Act → World → Prop) (i : Nat) (K : Act → World → Prop) (a : Act) (w : World) : Prop :=
  ∃ o, ops[i]? = some o ∧
    (if Region.wanted o (yielded ops a.tmps) = true then
      (if tl.contains i = true then (o.wp P a w (fun a' w' => (lt.contains i = true ∨ R w w') ∧ K a' w') Q ∨ (o.asks P a w ∧ LetsOut Q)) else ∃ v, (execOp a.eval o).run P w = .ok (.value v) w ∧ K (a.put o.dst v) w)
    else K (a.put o.dst undef) w)
def anyV (P : Program) (md : Region.Mode) (ops : Array Oper) (tl lt : List Nat) (R : World → World → Prop) (Q : Exit → Act → World → Prop) : Nat → Array Bool → Act → World → Prop
  | 0, L, a, w => Region.ready md ops L = [] ∧ Q .normal a w
  | fuel + 1, L, a, w => (Region.ready md ops L = [] → Q .normal a w) ∧ ∀ i ∈ Region.ready md ops L, stepV P ops tl lt R Q i (anyV P md ops tl lt R Q fuel (L.setIfInBounds i true)) a w
theorem anyV_any : ∀ (fuel : Nat) (L : Array Bool) (a : Act) (w : World), anyV P md ops tl lt R Q fuel L a w → wpAny P md ops Q fuel L a w
  | 0, _, _, _, h => h
  | fuel + 1, L, a, w, h => by
    refine ⟨h.1, fun i hi => ?_⟩
    obtain ⟨o, ho, hk⟩ := h.2 i hi
    unfold wpOp
    simp only [ho]
    by_cases hw : Region.wanted o (yielded ops a.tmps) = true
    · rw [if_pos hw] at hk ⊢
      split at hk
      · exact hk.imp (Oper.wp_mono fun a w h => anyV_any fuel _ a w h.2) id
      · obtain ⟨v, hr, hn⟩ := hk
        refine .inl ?_
        unfold Oper.wp
        rw [hr]
        exact anyV_any fuel _ _ _ hn
    · rw [if_neg hw] at hk ⊢
      exact anyV_any fuel _ _ _ hk
/-- An operation that yields v wherever R leads, or that its guard passes over. -/
def YieldsV (P : Program) (ops : Array Oper) (R : World → World → Prop) (pu : Bool) (o : Oper) (v : Value) (a : Act) (w : World) : Prop :=
  (Region.wanted o (yielded ops a.tmps) = true ∧ ∀ w', (pu = true ∨ R w w') → (execOp a.eval o).run P w' = .ok (.value v) w') ∨ (Region.wanted o (yielded ops a.tmps) = false ∧ v = undef)
theorem YieldsV.step {i : Nat} {pu : Bool} {oi : Oper} {v : Value} {K : Act → World → Prop} {a : Act} {w : World} (hi : ops[i]? = some oi) (hnt : tl.contains i = false) (hrf : ∀ w, R w w) (hy : YieldsV P ops R pu oi v a w) (h : K (a.put oi.dst v) w) :
    stepV P ops tl lt R Q i K a w := by
  refine ⟨oi, hi, ?_⟩
  rcases hy with ⟨hw, hv⟩ | ⟨hw, rfl⟩
  · rw [if_pos hw, if_neg (by rw [hnt]; exact Bool.false_ne_true)]
    exact ⟨v, hv w (.inr (hrf w)), h⟩
  · rw [if_neg (by rw [hw]; exact Bool.false_ne_true)]
    exact h
theorem firstV {i : Nat} {pu : Bool} {oi : Oper} {v : Value} (hrf : ∀ w, R w w) (htr : ∀ a b c, R a b → R b c → R a c) (hi : ops[i]? = some oi) (hnt : tl.contains i = false) (hsel : ∀ (j : Nat) (o : Oper) cs b, ops[j]? = some o → o.op ≠ .select cs b)
    (hQ : ∀ c a d v w, Q (.panic c) (Act.put a d v) w → Q (.panic c) a w) :
    ∀ (fuel : Nat) (L : Array Bool) (a : Act) (w : World), Down md ops L →
      (∀ j oj, ops[j]? = some oj → j ≠ i → L.getD j true = false → reach md ops ops.size j i = false → oi.apart ops oj = true ∧ (lt.contains j = true → pu = true)) →
      i ∈ Region.ready md ops L → YieldsV P ops R pu oi v a w →
      anyV P md ops tl lt R Q fuel (L.setIfInBounds i true) (a.put oi.dst v) w → anyV P md ops tl lt R Q (fuel + 1) L a w := by
  intro fuel
  induction fuel with
  | zero =>
    intro L a w hd hfree hr hv H
    refine ⟨fun h => (by rw [h] at hr; cases hr), fun j hj => ?_⟩
    by_cases hji : j = i
    · subst hji
      exact hv.step hi hnt hrf H
    · have := ready_mono hj hji
      rw [H.1] at this
      cases this
  | succ fuel ih =>
    intro L a w hd hfree hr hv H
    refine ⟨fun h => (by rw [h] at hr; cases hr), fun j hj => ?_⟩
    by_cases hji : j = i
    · subst hji
      exact hv.step hi hnt hrf H
    · obtain ⟨oj, hoj, hk⟩ := H.2 j (ready_mono hj hji)
      have hil : L.getD i false = false := by
        have h0 := (mem_ready.1 hr).1
        rcases Nat.lt_or_ge i L.size with h' | h'
        · simp [h'] at h0 ⊢; exact h0
        · simp [Array.getElem?_eq_none h'] at h0
      obtain ⟨hap, hlp⟩ := hfree j oj hoj hji (mem_ready.1 hj).1 (not_reach hd hj hil _)
      obtain ⟨h1, h2, h3⟩ := Oper.apart_spec hap
      have hex : execOp (a.put oi.dst v).eval oj = execOp a.eval oj := execOp_put oj (fun cs b => hsel j oj cs b hoj) a oi.dst v h1
      have hfree' : ∀ k ok, ops[k]? = some ok → k ≠ i → (L.setIfInBounds j true).getD k true = false → reach md ops ops.size k i = false → oi.apart ops ok = true ∧ (lt.contains k = true → pu = true) := fun k ok hk hki hun hno => by
        refine hfree k ok hk hki ?_ hno
        by_cases hjk : j = k
        · subst hjk; exact (mem_ready.1 hj).1
        · rw [getD_set_ne true hjk] at hun; exact hun
      have hval : ∀ (b : Act) u, b.tmps = a.tmps → ∀ w', (pu = true ∨ R w w') → YieldsV P ops R pu oi v (b.put oj.dst u) w' := fun b u hb w' hw' => by
        have e1 : execOp (b.put oj.dst u).eval oi = execOp b.eval oi := execOp_put oi (fun cs b => hsel i oi cs b hi) b oj.dst u h3
        have e2 : b.eval = a.eval := funext fun x => by cases x <;> simp [Act.eval, hb]
        have e3 : Region.wanted oi (yielded ops (b.put oj.dst u).tmps) = Region.wanted oi (yielded ops a.tmps) := by rw [wanted_put oi b oj.dst u h3, hb]
        unfold YieldsV at hv ⊢
        rw [e1, e2, e3]
        exact hv.imp (fun h => ⟨h.1, fun w'' hw'' => h.2 w'' (hw'.elim .inl fun h1 => hw''.imp id fun h2 => htr _ _ _ h1 h2)⟩) id
      rw [wanted_put oj a oi.dst v h1] at hk
      refine ⟨oj, hoj, ?_⟩
      by_cases hwj : Region.wanted oj (yielded ops a.tmps) = true
      · rw [if_pos hwj] at hk ⊢
        split at hk
        · rename_i htj
          rw [if_pos htj]
          refine hk.imp (wp_put (fun c a w => hQ c a oi.dst v w) hex h2 fun b u w' hb hh => ⟨hh.1, ?_⟩) (fun h => ⟨by have := h.1; unfold Oper.asks at this ⊢; rw [hex] at this; exact this, h.2⟩)
          refine ih (L.setIfInBounds j true) _ w' (down_set hd hj) hfree' (ready_mono hr (Ne.symm hji)) (hval b u hb w' (hh.1.imp hlp id)) ?_
          rw [Array.setIfInBounds_comm _ _ hji]
          exact hh.2
        · rename_i htj
          rw [if_neg htj]
          obtain ⟨u, hu, hn⟩ := hk
          rw [hex] at hu
          refine ⟨u, hu, ih (L.setIfInBounds j true) _ w (down_set hd hj) hfree' (ready_mono hr (Ne.symm hji)) (hval a u rfl w (.inr (hrf w))) ?_⟩
          rw [Array.setIfInBounds_comm _ _ hji, ← Act.put_comm a v u h2]
          exact hn
      · rw [if_neg hwj] at hk ⊢
        refine ih (L.setIfInBounds j true) _ w (down_set hd hj) hfree' (ready_mono hr (Ne.symm hji)) (hval a undef rfl w (.inr (hrf w))) ?_
        rw [Array.setIfInBounds_comm _ _ hji, ← Act.put_comm a v undef h2]
        exact hk
/-- Behind an operation of the tail: R (unless it is a late one), and on. -/
def onwardV (R : World → World → Prop) (late : Bool) (w : World) (Q : Exit → Act → World → Prop) (next : Act → World → Prop) : Exit → Act → World → Prop
  | .normal, a, w' => (late = true ∨ R w w') ∧ next a w'
  | e, a, w' => Q e a w'
theorem wp_onwardV {late : Bool} {o : Oper} {a : Act} {w w0 : World} {K : Act → World → Prop} {next : Act → World → Prop} (h : o.wp P a w K (onwardV R late w0 Q next)) : o.wp P a w K Q := by
  unfold Oper.wp at *
  generalize (execOp a.eval o).run P w = r at *
  cases r with
  | ok n w' =>
    cases n <;> simp only [Oper.upon] at h ⊢
    case value u => exact h
    case skip => exact h
    case defer x => exact h
    case enter f args =>
      refine Calls.mono h fun e w'' hh => ?_
      cases e with
      | returned u => exact hh
      | panicked c => exact hh
      | outgrown => exact hh
    case row r args => exact h
  | halt x w' =>
    cases x <;> simp only [Oper.upon] at h ⊢
    exact h
/-- What holds in every world, what only reads, then one that may do more, or one of two. -/
inductive SchV where
  | last (ps fs : List Nat)
  | one (ps fs : List Nat) (t : Nat) (k : SchV)
  | two (ps fs : List Nat) (t1 : Nat) (k1 : SchV) (t2 : Nat) (k2 : SchV)
  | three (ps fs : List Nat) (t1 : Nat) (k1 : SchV) (t2 : Nat) (k2 : SchV) (t3 : Nat) (k3 : SchV)
def SchV.tails : SchV → List Nat
  | .last _ _ => []
  | .one _ _ t k => t :: k.tails
  | .two _ _ t1 k1 t2 k2 => t1 :: t2 :: (k1.tails ++ k2.tails)
  | .three _ _ t1 k1 t2 k2 t3 k3 => t1 :: t2 :: t3 :: (k1.tails ++ (k2.tails ++ k3.tails))
def SchV.len : SchV → Nat
  | .last ps fs => ps.length + fs.length
  | .one ps fs _ k => ps.length + (fs.length + (k.len + 1))
  | .two ps fs _ k1 _ _ => ps.length + (fs.length + (k1.len + 1))
  | .three ps fs _ k1 _ _ _ _ => ps.length + (fs.length + (k1.len + 1))
def wpSchV (P : Program) (ops : Array Oper) (R : World → World → Prop) (lt : List Nat) (Q : Exit → Act → World → Prop) (l : List Oper) : SchV → Act → World → Prop
  | .last ps fs, a, w => wpQuiet P ops (fun _ => True) (fun a0 => wpQuiet P ops (R w) (fun a1 => Q .normal a1 w) (ordPick l fs) a0) (ordPick l ps) a
  | .one ps fs t k, a, w => wpQuiet P ops (fun _ => True) (fun a0 => wpQuiet P ops (R w) (fun a1 => wpList P ops (onwardV R (lt.contains t) w Q (wpSchV P ops R lt Q l k)) (ordPick l [t]) a1 w) (ordPick l fs) a0) (ordPick l ps) a
  | .two ps fs t1 k1 t2 k2, a, w => wpQuiet P ops (fun _ => True) (fun a0 => wpQuiet P ops (R w) (fun a1 => wpList P ops (onwardV R (lt.contains t1) w Q (wpSchV P ops R lt Q l k1)) (ordPick l [t1]) a1 w ∧ wpList P ops (onwardV R (lt.contains t2) w Q (wpSchV P ops R lt Q l k2)) (ordPick l [t2]) a1 w) (ordPick l fs) a0) (ordPick l ps) a
  | .three ps fs t1 k1 t2 k2 t3 k3, a, w => wpQuiet P ops (fun _ => True) (fun a0 => wpQuiet P ops (R w) (fun a1 => wpList P ops (onwardV R (lt.contains t1) w Q (wpSchV P ops R lt Q l k1)) (ordPick l [t1]) a1 w ∧ wpList P ops (onwardV R (lt.contains t2) w Q (wpSchV P ops R lt Q l k2)) (ordPick l [t2]) a1 w ∧ wpList P ops (onwardV R (lt.contains t3) w Q (wpSchV P ops R lt Q l k3)) (ordPick l [t3]) a1 w) (ordPick l fs) a0) (ordPick l ps) a
def freeV (md : Region.Mode) (ops : Array Oper) (M : List Nat) (tl lt : List Nat) (pu : Bool) (i : Nat) (L : Array Bool) : Bool :=
  match ops[i]? with
  | some oi => calm oi && !tl.contains i && (Region.ready md ops L).contains i && (List.range ops.size).all fun j =>
      j == i || L.getD j true || (M.getD j 0).testBit i || ((match ops[j]? with | some oj => oi.apart ops oj | none => true) && (pu || !lt.contains j))
  | none => false
def floatsV (md : Region.Mode) (ops : Array Oper) (M : List Nat) (tl lt : List Nat) (pu : Bool) : List Nat → Array Bool → Bool × Array Bool
  | [], L => (true, L)
  | i :: r, L => if freeV md ops M tl lt pu i L = true then floatsV md ops M tl lt pu r (L.setIfInBounds i true) else (false, L)
def bothV (md : Region.Mode) (ops : Array Oper) (M : List Nat) (tl lt : List Nat) (ps fs : List Nat) (L : Array Bool) : Bool × Array Bool :=
  ((floatsV md ops M tl lt true ps L).1 && (floatsV md ops M tl lt false fs (floatsV md ops M tl lt true ps L).2).1, (floatsV md ops M tl lt false fs (floatsV md ops M tl lt true ps L).2).2)
def schBV (md : Region.Mode) (ops : Array Oper) (M : List Nat) (tl lt : List Nat) : SchV → Array Bool → Bool
  | .last ps fs, L => (bothV md ops M tl lt ps fs L).1 && (Region.ready md ops (bothV md ops M tl lt ps fs L).2 == [])
  | .one ps fs t k, L => (bothV md ops M tl lt ps fs L).1 && tl.contains t && (Region.ready md ops (bothV md ops M tl lt ps fs L).2 == [t]) && schBV md ops M tl lt k ((bothV md ops M tl lt ps fs L).2.setIfInBounds t true)
  | .two ps fs t1 k1 t2 k2, L => (bothV md ops M tl lt ps fs L).1 && tl.contains t1 && tl.contains t2 && (k1.len == k2.len) && (Region.ready md ops (bothV md ops M tl lt ps fs L).2 == [t1, t2]) &&
      schBV md ops M tl lt k1 ((bothV md ops M tl lt ps fs L).2.setIfInBounds t1 true) && schBV md ops M tl lt k2 ((bothV md ops M tl lt ps fs L).2.setIfInBounds t2 true)
  | .three ps fs t1 k1 t2 k2 t3 k3, L => (bothV md ops M tl lt ps fs L).1 && tl.contains t1 && tl.contains t2 && tl.contains t3 && (k1.len == k2.len) && (k1.len == k3.len) && (Region.ready md ops (bothV md ops M tl lt ps fs L).2 == [t1, t2, t3]) &&
      schBV md ops M tl lt k1 ((bothV md ops M tl lt ps fs L).2.setIfInBounds t1 true) && schBV md ops M tl lt k2 ((bothV md ops M tl lt ps fs L).2.setIfInBounds t2 true) && schBV md ops M tl lt k3 ((bothV md ops M tl lt ps fs L).2.setIfInBounds t3 true)
def schV (md : Region.Mode) (ops : Array Oper) (lt : List Nat) (s : SchV) : Bool :=
  Region.noSelect ops && (s.len == ops.size) && schBV md ops (masks md ops) s.tails lt s (Array.replicate ops.size false)
theorem freeV_spec {pu : Bool} {i : Nat} {L : Array Bool} (h : freeV md ops (masks md ops) tl lt pu i L = true) : ∃ oi, ops[i]? = some oi ∧ calm oi = true ∧ tl.contains i = false ∧ i ∈ Region.ready md ops L ∧
    ∀ j oj, ops[j]? = some oj → j ≠ i → L.getD j true = false → reach md ops ops.size j i = false → oi.apart ops oj = true ∧ (lt.contains j = true → pu = true) := by
  unfold freeV at h
  split at h
  · rename_i oi hoi
    simp only [Bool.and_eq_true, Bool.not_eq_true', List.contains_iff_mem, List.all_eq_true, List.mem_range, Bool.or_eq_true, beq_iff_eq] at h
    obtain ⟨⟨⟨h1, h3⟩, h4⟩, h5⟩ := h
    refine ⟨oi, hoi, h1, by simpa using h3, h4, fun j oj hoj hji hl hr => ?_⟩
    have hlt : j < ops.size := (Array.getElem?_eq_some_iff.1 hoj).1
    rcases h5 j hlt with ((e | e) | e) | ⟨e, e2⟩
    · exact (hji e).elim
    · rw [e] at hl; cases hl
    · rw [mask_reach hlt e] at hr; cases hr
    · simp only [hoj] at e
      refine ⟨e, fun hc => e2.elim id (fun h6 => ?_)⟩
      rw [h6] at hc
      cases hc
  · cases h
theorem floatsV_any {C : World → Prop} {pu : Bool} (hrf : ∀ w, R w w) (htr : ∀ a b c, R a b → R b c → R a c) (hsel : ∀ (j : Nat) (o : Oper) cs b, ops[j]? = some o → o.op ≠ .select cs b) (hQ : ∀ c a d v w, Q (.panic c) (Act.put a d v) w → Q (.panic c) a w) {w : World} {n : Nat} {G : Act → Prop} (hC : ∀ w', (pu = true ∨ R w w') → C w') :
    ∀ (fs : List Nat) (L : Array Bool) (a : Act), Down md ops L → (floatsV md ops (masks md ops) tl lt pu fs L).1 = true → wpQuiet P ops C G (ordPick ops.toList fs) a →
      (∀ a1, Down md ops (floatsV md ops (masks md ops) tl lt pu fs L).2 → G a1 → anyV P md ops tl lt R Q n (floatsV md ops (masks md ops) tl lt pu fs L).2 a1 w) → anyV P md ops tl lt R Q (fs.length + n) L a w
  | [], L, a, hdn, _, h, hk => by
    have := hk a hdn h
    simp only [floatsV] at this
    simpa using this
  | i :: r, L, a, hdn, hB, h, hk => by
    unfold floatsV at hB hk
    split at hB
    · rename_i hf
      rw [if_pos hf] at hk
      obtain ⟨oi, hoi, hne, hnt, hr, hap⟩ := freeV_spec hf
      have hp : ordPick ops.toList (i :: r) = oi :: ordPick ops.toList r := by simp [ordPick, hoi]
      rw [hp] at h
      have hy : ∃ v, YieldsV P ops R pu oi v a w ∧ wpQuiet P ops C G (ordPick ops.toList r) (a.put oi.dst v) := by
        simp only [wpQuiet] at h
        by_cases hw : Region.wanted oi (yielded ops a.tmps) = true
        · rw [if_pos hw] at h
          obtain ⟨v, hv, hn⟩ := calm_value hne h
          exact ⟨v, .inl ⟨hw, fun w' hw' => hv w' (hC w' hw')⟩, hn⟩
        · rw [if_neg hw] at h
          exact ⟨undef, .inr ⟨by simpa using hw, rfl⟩, h⟩
      obtain ⟨v, hv, hn⟩ := hy
      have ih := floatsV_any hrf htr hsel hQ hC r _ _ (down_set hdn hr) hB hn hk
      rw [show (i :: r).length + n = (r.length + n) + 1 by simp; omega]
      exact firstV hrf htr hoi hnt hsel hQ _ L a w hdn hap hr hv ih
    · cases hB
theorem bothV_any (hrf : ∀ w, R w w) (htr : ∀ a b c, R a b → R b c → R a c) (hsel : ∀ (j : Nat) (o : Oper) cs b, ops[j]? = some o → o.op ≠ .select cs b) (hQ : ∀ c a d v w, Q (.panic c) (Act.put a d v) w → Q (.panic c) a w) {w : World} {n : Nat} {G : Act → Prop}
    (ps fs : List Nat) (L : Array Bool) (a : Act) (hdn : Down md ops L) (hB : (bothV md ops (masks md ops) tl lt ps fs L).1 = true) (h : wpQuiet P ops (fun _ => True) (fun a0 => wpQuiet P ops (R w) G (ordPick ops.toList fs) a0) (ordPick ops.toList ps) a)
    (hk : ∀ a1, Down md ops (bothV md ops (masks md ops) tl lt ps fs L).2 → G a1 → anyV P md ops tl lt R Q n (bothV md ops (masks md ops) tl lt ps fs L).2 a1 w) : anyV P md ops tl lt R Q (ps.length + (fs.length + n)) L a w := by
  simp only [bothV, Bool.and_eq_true] at hB hk
  refine floatsV_any (pu := true) hrf htr hsel hQ (fun _ _ => trivial) ps L a hdn hB.1 h fun a0 hd0 hg => ?_
  exact floatsV_any (pu := false) hrf htr hsel hQ (fun w' hw => by simpa using hw) fs _ a0 hd0 hB.2 hg hk
theorem tailV_step {o : Oper} {a : Act} {w : World} {j : Nat} {K next : Act → World → Prop} (ho : ops[j]? = some o) (h1 : tl.contains j = true) (hg : wpList P ops (onwardV R (lt.contains j) w Q next) [o] a w) (ih : ∀ a w, next a w → K a w) : stepV P ops tl lt R Q j K a w := by
  refine ⟨o, ho, ?_⟩
  simp only [wpList] at hg
  by_cases hw : Region.wanted o (yielded ops a.tmps) = true
  · rw [if_pos hw] at hg ⊢
    rw [if_pos h1]
    exact hg.imp (fun h => Oper.wp_mono (fun a2 w2 hh => ⟨hh.1, ih a2 w2 hh.2⟩) (wp_onwardV h)) (fun h => ⟨h.1, h.2⟩)
  · rw [if_neg hw] at hg ⊢
    exact ih _ _ hg.2
theorem schV_any (hrf : ∀ w, R w w) (htr : ∀ a b c, R a b → R b c → R a c) (hsel : ∀ (j : Nat) (o : Oper) cs b, ops[j]? = some o → o.op ≠ .select cs b) (hQ : ∀ c a d v w, Q (.panic c) (Act.put a d v) w → Q (.panic c) a w) :
    ∀ (s : SchV) (L : Array Bool) (a : Act) (w : World), Down md ops L → schBV md ops (masks md ops) tl lt s L = true → wpSchV P ops R lt Q ops.toList s a w → anyV P md ops tl lt R Q s.len L a w
  | .last ps fs, L, a, w, hdn, hB, h => by
    simp only [schBV, Bool.and_eq_true, beq_iff_eq] at hB
    exact bothV_any (n := 0) hrf htr hsel hQ ps fs L a hdn hB.1 h fun a1 _ hg => ⟨hB.2, hg⟩
  | .one ps fs t k, L, a, w, hdn, hB, h => by
    simp only [schBV, Bool.and_eq_true, beq_iff_eq] at hB
    obtain ⟨⟨⟨h0, h1⟩, h2⟩, h3⟩ := hB
    refine bothV_any (n := k.len + 1) hrf htr hsel hQ ps fs L a hdn h0 h fun a1 hd1 hg => ?_
    refine ⟨fun e => (by rw [h2] at e; cases e), fun j hj => ?_⟩
    have hjr := hj
    rw [h2] at hj
    obtain rfl : j = t := by simpa using hj
    obtain ⟨_, o, ho, _⟩ := mem_ready.1 hjr
    have hp : ordPick ops.toList [j] = [o] := by simp [ordPick, ho]
    rw [hp] at hg
    exact tailV_step ho h1 hg fun a2 w2 => schV_any hrf htr hsel hQ k _ a2 w2 (down_set hd1 hjr) h3
  | .two ps fs t1 k1 t2 k2, L, a, w, hdn, hB, h => by
    simp only [schBV, Bool.and_eq_true, beq_iff_eq] at hB
    obtain ⟨⟨⟨⟨⟨⟨h0, h1⟩, h1'⟩, hln⟩, h2⟩, h3⟩, h4⟩ := hB
    refine bothV_any (n := k1.len + 1) hrf htr hsel hQ ps fs L a hdn h0 h fun a1 hd1 hg => ?_
    refine ⟨fun e => (by rw [h2] at e; cases e), fun j hj => ?_⟩
    have hjr := hj
    rw [h2] at hj
    obtain ⟨_, o, ho, _⟩ := mem_ready.1 hjr
    have hp : ordPick ops.toList [j] = [o] := by simp [ordPick, ho]
    have hj' : j = t1 ∨ j = t2 := by simpa using hj
    rcases hj' with rfl | rfl
    · have hg := hg.1
      rw [hp] at hg
      exact tailV_step ho h1 hg fun a2 w2 => schV_any hrf htr hsel hQ k1 _ a2 w2 (down_set hd1 hjr) h3
    · have hg := hg.2
      rw [hp] at hg
      rw [hln]
      exact tailV_step ho h1' hg fun a2 w2 => schV_any hrf htr hsel hQ k2 _ a2 w2 (down_set hd1 hjr) h4
  | .three ps fs t1 k1 t2 k2 t3 k3, L, a, w, hdn, hB, h => by
    simp only [schBV, Bool.and_eq_true, beq_iff_eq] at hB
    obtain ⟨⟨⟨⟨⟨⟨⟨⟨⟨h0, h1⟩, h1'⟩, h1''⟩, hln⟩, hln'⟩, h2⟩, h3⟩, h4⟩, h5⟩ := hB
    refine bothV_any (n := k1.len + 1) hrf htr hsel hQ ps fs L a hdn h0 h fun a1 hd1 hg => ?_
    refine ⟨fun e => (by rw [h2] at e; cases e), fun j hj => ?_⟩
    have hjr := hj
    rw [h2] at hj
    obtain ⟨_, o, ho, _⟩ := mem_ready.1 hjr
    have hp : ordPick ops.toList [j] = [o] := by simp [ordPick, ho]
    have hj' : j = t1 ∨ j = t2 ∨ j = t3 := by simpa using hj
    rcases hj' with rfl | rfl | rfl
    · have hg := hg.1
      rw [hp] at hg
      exact tailV_step ho h1 hg fun a2 w2 => schV_any hrf htr hsel hQ k1 _ a2 w2 (down_set hd1 hjr) h3
    · have hg := hg.2.1
      rw [hp] at hg
      rw [hln]
      exact tailV_step ho h1' hg fun a2 w2 => schV_any hrf htr hsel hQ k2 _ a2 w2 (down_set hd1 hjr) h4
    · have hg := hg.2.2
      rw [hp] at hg
      rw [hln']
      exact tailV_step ho h1'' hg fun a2 w2 => schV_any hrf htr hsel hQ k3 _ a2 w2 (down_set hd1 hjr) h5
end
/-- lt: the late ones of the tail: what only reads and stands ahead of one of them is waited for by it; behind a late one nothing need be shown. -/
theorem wp_region_late {P : Program} {id : Nat} {Q : Exit → Act → World → Prop} {a : Act} {w : World} {l : List Oper} (R : World → World → Prop) (hrf : ∀ w, R w w) (htr : ∀ a b c, R a b → R b c → R a c) (lt : List Nat) (s : SchV) (hm : P.follows .mixedOrders = true) (hB : schV .any l.toArray lt s = true)
    (hQ' : ∀ c a (d : Tmp) v w, Q (.panic c) (Act.put a (some d) v) w → Q (.panic c) a w)
    (h : wpSchV P l.toArray R lt Q l s a w.drew) : (Code.region id l.toArray true).wp P Q a w := by
  have hQ : ∀ c a d v w, Q (.panic c) (Act.put a d v) w → Q (.panic c) a w := fun c a d v w h => by
    cases d with
    | none => exact h
    | some d => exact hQ' c a d v w h
  simp only [schV, Bool.and_eq_true, beq_iff_eq] at hB
  obtain ⟨⟨hs, hn⟩, hB⟩ := hB
  refine wp_region_any hm (anyV_any _ _ _ _ (tl := s.tails) (lt := lt) (R := R) ?_)
  have H := schV_any (P := P) (md := .any) (tl := s.tails) (lt := lt) (Q := Q) (R := R) hrf htr (Region.noSelect_spec hs) hQ s (Array.replicate l.toArray.size false) a w.drew (fun j oj _ hj => ?_) hB h
  · rw [hn] at H
    exact H
  · exfalso
    rw [Array.getD_eq_getD_getElem?] at hj
    simp [Array.getElem?_replicate] at hj
    split at hj <;> simp at hj
end Go.Pl

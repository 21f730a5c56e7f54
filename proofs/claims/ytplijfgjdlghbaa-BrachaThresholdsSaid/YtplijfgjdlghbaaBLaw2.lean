/-
  Votes of different processes for one payload.
-/
import Derived.Test.YtplijfgjdlghbaaBLaw1
namespace Bra
/-- The votes of the processes of a list for one payload. -/
def same (l : List Int) (s : List UInt8) : Votes := l.map fun i => (i, s)
theorem count_same (l : List Int) (s : List UInt8) : count (same l s) s = l.length := by
  induction l with
  | nil => rfl
  | cons a r ih =>
    unfold count same at *
    simp
    exact ih
theorem voted_same (l : List Int) (s : List UInt8) (i : Int) : voted (same l s) i = l.contains i := by
  induction l with
  | nil => rfl
  | cons a r ih =>
    unfold voted same at *
    rw [List.map_cons, List.any_cons, ih, List.contains_cons]
    by_cases h : a = i
    · subst h; simp
    · have h' : ¬ i = a := fun e => h e.symm
      have e1 : (a == i) = false := by simpa using h
      have e2 : (i == a) = false := by simpa using h'
      rw [e1, e2]
theorem same_snoc (l : List Int) (i : Int) (s : List UInt8) : same l s ++ [(i, s)] = same (l ++ [i]) s := by simp [same]
/-- A process that has had echoes alone, of the processes of a list. -/
def EchoedBy (n : Nat) (s : List UInt8) (l : List Int) (p : Proc) : Prop :=
  p.n = n ∧ p.self = 0 ∧ p.done = [] ∧ look p.casts 0 1 = ⟨0, 1, false, decide (n + faults n < 2 * l.length), false, same l s, []⟩
/-- .. readies alone. -/
def ReadiedBy (n : Nat) (s : List UInt8) (l : List Int) (p : Proc) : Prop :=
  p.n = n ∧ p.self = 0 ∧ p.done.length = (if 2 * faults n + 1 ≤ l.length then 1 else 0) ∧ look p.casts 0 1 = ⟨0, 1, false, decide (faults n + 1 ≤ l.length), decide (2 * faults n + 1 ≤ l.length), [], same l s⟩
theorem echoed_start (n : Nat) (s : List UInt8) : EchoedBy n s [] (start n 0) := by
  refine ⟨rfl, rfl, rfl, ?_⟩
  have : ¬ n + faults n < 2 * ([] : List Int).length := by simp
  rw [decide_eq_false this]
  rfl
theorem readied_start (n : Nat) (s : List UInt8) : ReadiedBy n s [] (start n 0) := by
  refine ⟨rfl, rfl, ?_, ?_⟩
  · rw [if_neg (by simp)]; rfl
  · rw [decide_eq_false (by simp), decide_eq_false (by simp)]; rfl
theorem valid_vote {p : Proc} {n : Nat} (hn : p.n = n) (hs : p.self = 0) (h1 : 1 ≤ n) {kd i : Int} {s : List UInt8} (hk : kd = 2 ∨ kd = 3) (h0 : 0 ≤ i) (hi : i < n) : valid p.n p.self ⟨kd, i, 0, 0, 1, s⟩ = true := by
  rcases hk with rfl | rfl <;> simp [valid, hn, hs] <;> omega
theorem echo_one {n : Nat} {s : List UInt8} {l : List Int} {p : Proc} (h : EchoedBy n s l p) (h1 : 1 ≤ n) {i : Int} (h0 : 0 ≤ i) (hi : i < n) (hnew : l.contains i = false) :
    EchoedBy n s (l ++ [i]) (recv p ⟨2, i, 0, 0, 1, s⟩).1 ∧ (recv p ⟨2, i, 0, 0, 1, s⟩).2.length = (if n + faults n < 2 * (l.length + 1) ∧ ¬ n + faults n < 2 * l.length then n else 0) := by
  obtain ⟨hn, hs, hd, hl⟩ := h
  have hv := valid_vote (s := s) hn hs h1 (.inl rfl) h0 hi
  have hst : step p.n ⟨0, 1, false, decide (n + faults n < 2 * l.length), false, same l s, []⟩ ⟨2, i, 0, 0, 1, s⟩ =
      (⟨0, 1, false, decide (n + faults n < 2 * (l ++ [i]).length), false, same (l ++ [i]) s, []⟩, decide (n + faults n < 2 * (l.length + 1)) && !decide (n + faults n < 2 * l.length), false) := by
    have hvt : voted (same l s) i = false := by rw [voted_same]; exact hnew
    simp only [step, hvt, same_snoc, count_same, hn, List.length_append, List.length_singleton]
    by_cases a : n + faults n < 2 * l.length
    · have b : n + faults n < 2 * (l.length + 1) := by omega
      simp [a, b]
    · by_cases b : n + faults n < 2 * (l.length + 1) <;> simp [a, b]
  rw [recv_valid hv hl, hst]
  refine ⟨⟨hn, hs, by simpa using hd, ?_⟩, ?_⟩
  · show look (upd p.casts 0 1 _) 0 1 = _
    rw [look_upd_same (by rfl)]
  · by_cases a : n + faults n < 2 * l.length
    · simp [a]
    · by_cases b : n + faults n < 2 * (l.length + 1)
      · simp [a, b, all_length, hn]
      · simp [a, b]
theorem ready_one {n : Nat} {s : List UInt8} {l : List Int} {p : Proc} (h : ReadiedBy n s l p) (h1 : 1 ≤ n) {i : Int} (h0 : 0 ≤ i) (hi : i < n) (hnew : l.contains i = false) :
    ReadiedBy n s (l ++ [i]) (recv p ⟨3, i, 0, 0, 1, s⟩).1 ∧ (recv p ⟨3, i, 0, 0, 1, s⟩).2.length = (if l.length + 1 = faults n + 1 then n else 0) := by
  obtain ⟨hn, hs, hd, hl⟩ := h
  have hv := valid_vote (s := s) hn hs h1 (.inr rfl) h0 hi
  have hst : step p.n ⟨0, 1, false, decide (faults n + 1 ≤ l.length), decide (2 * faults n + 1 ≤ l.length), [], same l s⟩ ⟨3, i, 0, 0, 1, s⟩ =
      (⟨0, 1, false, decide (faults n + 1 ≤ (l ++ [i]).length), decide (2 * faults n + 1 ≤ (l ++ [i]).length), [], same (l ++ [i]) s⟩,
        decide (faults n + 1 ≤ l.length + 1) && !decide (faults n + 1 ≤ l.length), decide (2 * faults n + 1 ≤ l.length + 1) && !decide (2 * faults n + 1 ≤ l.length)) := by
    have hvt : voted (same l s) i = false := by rw [voted_same]; exact hnew
    simp only [step, hvt, same_snoc, count_same, hn, List.length_append, List.length_singleton]
    by_cases a : faults n + 1 ≤ l.length
    · have a' : faults n + 1 ≤ l.length + 1 := by omega
      by_cases c : 2 * faults n + 1 ≤ l.length
      · have c' : 2 * faults n + 1 ≤ l.length + 1 := by omega
        simp [a, a', c, c']
      · by_cases c' : 2 * faults n + 1 ≤ l.length + 1 <;> simp [a, a', c, c']
    · have c : ¬ 2 * faults n + 1 ≤ l.length := by omega
      by_cases a' : faults n + 1 ≤ l.length + 1 <;> by_cases c' : 2 * faults n + 1 ≤ l.length + 1 <;> simp [a, a', c, c']
  rw [recv_valid hv hl, hst]
  refine ⟨⟨hn, hs, ?_, ?_⟩, ?_⟩
  · simp only [List.length_append, List.length_singleton]
    by_cases c : 2 * faults n + 1 ≤ l.length
    · have c' : 2 * faults n + 1 ≤ l.length + 1 := by omega
      rw [if_pos c] at hd
      simp [c, c', hd]
    · rw [if_neg c] at hd
      by_cases c' : 2 * faults n + 1 ≤ l.length + 1 <;> simp [c, c', hd]
  · show look (upd p.casts 0 1 _) 0 1 = _
    rw [look_upd_same (by rfl)]
  · by_cases a : faults n + 1 ≤ l.length
    · have b : ¬ l.length + 1 = faults n + 1 := by omega
      simp [a]
      omega
    · by_cases b : faults n ≤ l.length
      · have b' : l.length = faults n := by omega
        simp [b', all_length, hn]
      · have b' : ¬ l.length = faults n := by omega
        simp [b, b']
end Bra

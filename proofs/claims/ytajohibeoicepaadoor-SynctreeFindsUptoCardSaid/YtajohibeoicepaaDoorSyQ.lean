/-
  Parts one digit longer; the prefixes in which two lists differ. Plain Lean.
-/
import Derived.Test.YtajohibeoicepaaDoorSySm
namespace Sy
/-- f 0 + .. + f (k - 1). -/
def sumK (f : Nat → Nat) : Nat → Nat
  | 0 => 0
  | k + 1 => sumK f k + f k
theorem sumK_le {f g : Nat → Nat} (h : ∀ i, f i ≤ g i) : ∀ k, sumK f k ≤ sumK g k
  | 0 => Nat.le_refl _
  | k + 1 => Nat.add_le_add (sumK_le h k) (h k)
theorem sumK_add {f g : Nat → Nat} : ∀ k, sumK (fun i => f i + g i) k = sumK f k + sumK g k
  | 0 => rfl
  | k + 1 => by simp only [sumK, sumK_add k]; omega
theorem sumK_congr {f g : Nat → Nat} : ∀ k, (∀ i, i < k → f i = g i) → sumK f k = sumK g k
  | 0, _ => rfl
  | k + 1, h => by simp only [sumK, sumK_congr k (fun i hi => h i (by omega)), h k (by omega)]
theorem sumK_zero : ∀ k, sumK (fun _ => 0) k = 0
  | 0 => rfl
  | k + 1 => by simp [sumK, sumK_zero k]
/-- One where the list begins with digit i. -/
def hd (r : List UInt8) (i : Nat) : Nat := if r.head? = some (UInt8.ofNat i) then 1 else 0
theorem hd_sum (r : List UInt8) : ∀ k, k ≤ 256 → sumK (hd r) k = if ∃ y, r.head? = some y ∧ y.toNat < k then 1 else 0
  | 0, _ => by simp [sumK]
  | k + 1, h => by
    rw [sumK, hd_sum r k (by omega)]
    unfold hd
    cases hr : r.head? with
    | none => simp
    | some y =>
      have hk : (UInt8.ofNat k).toNat = k := by rw [UInt8.toNat_ofNat']; omega
      by_cases hyk : y = UInt8.ofNat k
      · have h1 : y.toNat = k := by rw [hyk, hk]
        rw [if_neg (by rintro ⟨z, hz, hlt⟩; cases hz; omega), if_pos (by rw [hyk]), if_pos ⟨y, rfl, by omega⟩]
      · have h1 : y.toNat ≠ k := fun e => hyk (UInt8.toNat_inj.1 (by rw [hk]; exact e))
        rw [if_neg (show ¬ some y = some (UInt8.ofNat k) from fun e => hyk (Option.some.inj e))]
        by_cases hlt : y.toNat < k
        · rw [if_pos ⟨y, rfl, hlt⟩, if_pos ⟨y, rfl, by omega⟩]
        · rw [if_neg (by rintro ⟨z, hz, h2⟩; cases hz; exact hlt h2), if_neg (by rintro ⟨z, hz, h2⟩; cases hz; omega)]
theorem pre_snoc (p : List UInt8) (y : UInt8) : ∀ d : List UInt8, (p ++ [y]).isPrefixOf d = (p.isPrefixOf d && decide ((d.drop p.length).head? = some y)) := by
  intro d
  rw [Bool.eq_iff_iff, Bool.and_eq_true, decide_eq_true_iff, List.isPrefixOf_iff_prefix, List.isPrefixOf_iff_prefix]
  constructor
  · rintro ⟨t, rfl⟩
    refine ⟨⟨[y] ++ t, by simp⟩, by simp⟩
  · rintro ⟨⟨t, rfl⟩, h⟩
    rw [List.drop_left] at h
    cases t with
    | nil => simp at h
    | cons a t =>
      simp at h
      subst h
      exact ⟨t, by simp⟩
/-- One for a command below the prefix. -/
def at1 (p : List UInt8) (d : List UInt8) : Nat := if p.isPrefixOf d = true then 1 else 0
theorem at1_snoc (p d : List UInt8) (i : Nat) : at1 (p ++ [UInt8.ofNat i]) d = if p.isPrefixOf d = true then hd (d.drop p.length) i else 0 := by
  unfold at1 hd
  rw [pre_snoc]
  by_cases h : p.isPrefixOf d = true
  · rw [h, if_pos rfl, Bool.true_and]
    by_cases h2 : (d.drop p.length).head? = some (UInt8.ofNat i)
    · rw [if_pos h2, if_pos (decide_eq_true h2)]
    · rw [if_neg h2, if_neg (by simpa using h2)]
  · rw [if_neg h, if_neg (by simp [h])]
theorem at1_sum (p d : List UInt8) : sumK (fun i => at1 (p ++ [UInt8.ofNat i]) d) 16 = if p.isPrefixOf d = true then (if ∃ y, (d.drop p.length).head? = some y ∧ y.toNat < 16 then 1 else 0) else 0 := by
  by_cases h : p.isPrefixOf d = true
  · rw [if_pos h, ← hd_sum _ 16 (by omega)]
    exact sumK_congr 16 fun i _ => by rw [at1_snoc, if_pos h]
  · rw [if_neg h, ← sumK_zero 16]
    exact sumK_congr 16 fun i _ => by rw [at1_snoc, if_neg h]
theorem at1_sum_le (p d : List UInt8) : sumK (fun i => at1 (p ++ [UInt8.ofNat i]) d) 16 ≤ at1 p d := by
  rw [at1_sum]
  unfold at1
  split
  · split <;> simp
  · simp
theorem part_cons (p : List UInt8) (x : Cm) (s : List Cm) : (part p (x :: s)).length = at1 p (digs (enc x)) + (part p s).length := by
  unfold part at1
  rw [List.filter_cons]
  split <;> simp <;> omega
/-- The parts one digit longer hold no more. -/
theorem kids_le (p : List UInt8) : ∀ s : List Cm, sumK (fun i => (part (p ++ [UInt8.ofNat i]) s).length) 16 ≤ (part p s).length
  | [] => by simp [part, sumK]
  | x :: s => by
    have e : sumK (fun i => (part (p ++ [UInt8.ofNat i]) (x :: s)).length) 16 = sumK (fun i => at1 (p ++ [UInt8.ofNat i]) (digs (enc x)) + (part (p ++ [UInt8.ofNat i]) s).length) 16 :=
      sumK_congr 16 fun i _ => part_cons _ x s
    rw [e, sumK_add, part_cons]
    exact Nat.add_le_add (at1_sum_le p _) (kids_le p s)
/-- The prefixes in which two lists of commands differ, from a prefix on, with at most m - 1 digits more. -/
def diff : Nat → List Cm → List Cm → List UInt8 → List (List UInt8)
  | 0, _, _, _ => []
  | m + 1, a, b, p => if same (dig a p) (dig b p) = true then [] else if (part p a).length ≤ 4 ∨ (part p b).length ≤ 4 then [p] else (List.range 16).flatMap fun i => diff m a b (p ++ [UInt8.ofNat i])
/-- The first k of the sixteen. -/
def diffT (m : Nat) (a b : List Cm) (p : List UInt8) (k : Nat) : List (List UInt8) := (List.range k).flatMap fun i => diff m a b (p ++ [UInt8.ofNat i])
theorem diffT_succ (m : Nat) (a b : List Cm) (p : List UInt8) (k : Nat) : diffT m a b p (k + 1) = diffT m a b p k ++ diff m a b (p ++ [UInt8.ofNat k]) := by simp [diffT, List.range_succ]
theorem diffT_len (m : Nat) (a b : List Cm) (p : List UInt8) : ∀ k, (diffT m a b p k).length = sumK (fun i => (diff m a b (p ++ [UInt8.ofNat i])).length) k
  | 0 => rfl
  | k + 1 => by rw [diffT_succ, List.length_append, diffT_len m a b p k, sumK]
theorem same_nil {a b : List Cm} {p : List UInt8} (h1 : part p a = []) (h2 : part p b = []) : same (dig a p) (dig b p) = true := by simp [same, dig, h1, h2]
theorem diff_le : ∀ (m : Nat) (a b : List Cm) (p : List UInt8), (diff m a b p).length ≤ (part p a).length + (part p b).length
  | 0, _, _, _ => by simp [diff]
  | m + 1, a, b, p => by
    rw [diff]
    split
    · simp
    · rename_i hs
      split
      · have : ¬ ((part p a).length = 0 ∧ (part p b).length = 0) := fun h => hs (same_nil (List.eq_nil_of_length_eq_zero h.1) (List.eq_nil_of_length_eq_zero h.2))
        simp; omega
      · have h1 := diffT_len m a b p 16
        have h2 : sumK (fun i => (diff m a b (p ++ [UInt8.ofNat i])).length) 16 ≤ sumK (fun i => (part (p ++ [UInt8.ofNat i]) a).length + (part (p ++ [UInt8.ofNat i]) b).length) 16 := sumK_le (fun i => diff_le m a b _) 16
        rw [sumK_add] at h2
        have h3 := kids_le p a
        have h4 := kids_le p b
        unfold diffT at h1
        omega
theorem diffT_le (m : Nat) (a b : List Cm) (p : List UInt8) (k : Nat) (hk : k ≤ 16) : (diffT m a b p k).length ≤ (part p a).length + (part p b).length := by
  have h1 := diffT_len m a b p k
  have mono : ∀ (f : Nat → Nat) (j : Nat), sumK f k ≤ sumK f (k + j) := fun f j => by
    induction j with
    | zero => exact Nat.le_refl _
    | succ j ih => exact Nat.le_trans ih (Nat.le_add_right _ _)
  have h0 := mono (fun i => (diff m a b (p ++ [UInt8.ofNat i])).length) (16 - k)
  rw [show k + (16 - k) = 16 by omega] at h0
  have h2 : sumK (fun i => (diff m a b (p ++ [UInt8.ofNat i])).length) 16 ≤ sumK (fun i => (part (p ++ [UInt8.ofNat i]) a).length + (part (p ++ [UInt8.ofNat i]) b).length) 16 := sumK_le (fun i => diff_le m a b _) 16
  rw [sumK_add] at h2
  have h3 := kids_le p a
  have h4 := kids_le p b
  omega
/-- Where more than four commands are below a prefix, it is no longer than their digits. -/
theorem part_short {m : Nat} {p : List UInt8} {s : List Cm} (h : ∀ x ∈ s, csz x ≤ m) (h0 : 0 < (part p s).length) : p.length ≤ 2 * m := by
  obtain ⟨x, hx⟩ := List.exists_mem_of_length_pos h0
  have h1 := (List.mem_filter.1 hx).2
  rw [List.isPrefixOf_iff_prefix] at h1
  have h2 := h1.length_le
  have h3 := length_enc x
  have h4 := h x (part_sub hx)
  rw [length_digs] at h2
  omega
end Sy

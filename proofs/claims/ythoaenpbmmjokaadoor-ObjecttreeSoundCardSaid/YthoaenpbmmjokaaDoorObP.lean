/-
  The codes of keys: bits, first differences, numbers in four bytes.
-/
namespace Ob
abbrev Key := List UInt8
def bitN (k : Key) (i : Nat) : Nat := if k.length ≤ i / 9 then 0 else if i % 9 = 0 then 1 else (k.getD (i / 9) 0).toNat / 2 ^ (8 - i % 9) % 2
def bit (k : Key) (i : Int) : Nat := if i < 0 then 0 else bitN k i.toNat
/-- The length of the common beginning. -/
def lcp : Key → Key → Nat
  | a :: k, b :: l => if a = b then lcp k l + 1 else 0
  | _, _ => 0
theorem bit_nat (k : Key) (i : Nat) : bit k (i : Int) = bitN k i := by unfold bit; rw [if_neg (by omega)]; rfl
theorem bitN_le (k : Key) (i : Nat) : bitN k i ≤ 1 := by unfold bitN; split <;> (try split) <;> omega
theorem bit_le (k : Key) (i : Int) : bit k i ≤ 1 := by unfold bit; split; omega; exact bitN_le _ _
theorem lcp_self : ∀ a : Key, lcp a a = a.length
  | [] => rfl
  | x :: a => by unfold lcp; rw [if_pos rfl, lcp_self a]; rfl
theorem lcp_le : ∀ a b : Key, lcp a b ≤ a.length ∧ lcp a b ≤ b.length
  | [], [] => ⟨Nat.le_refl _, Nat.le_refl _⟩
  | [], _ :: _ => ⟨Nat.le_refl _, Nat.zero_le _⟩
  | _ :: _, [] => ⟨Nat.zero_le _, Nat.le_refl _⟩
  | x :: a, y :: b => by
    have := lcp_le a b
    unfold lcp
    split
    · simp; omega
    · exact ⟨Nat.zero_le _, Nat.zero_le _⟩
theorem lcp_get : ∀ {a b : Key} {i : Nat}, i < lcp a b → a[i]? = b[i]?
  | [], [], _, h => absurd h (Nat.not_lt_zero _)
  | [], _ :: _, _, h => absurd h (Nat.not_lt_zero _)
  | _ :: _, [], _, h => absurd h (Nat.not_lt_zero _)
  | x :: a, y :: b, i, h => by
    unfold lcp at h
    split at h
    · rename_i e
      subst e
      cases i with
      | zero => rfl
      | succ i => simpa using lcp_get (a := a) (b := b) (by omega)
    · exact absurd h (Nat.not_lt_zero _)
/-- Behind it they differ, or one ends. -/
theorem lcp_end : ∀ {a b : Key} {x y : UInt8}, a[lcp a b]? = some x → b[lcp a b]? = some y → x ≠ y
  | [], _, _, _, h, _ => by simp at h
  | _ :: _, [], _, _, _, h => by simp at h
  | x :: a, y :: b, u, v, h1, h2 => by
    unfold lcp at h1 h2
    split at h1
    · rename_i e
      rw [if_pos e] at h2
      exact lcp_end (a := a) (b := b) (by simpa using h1) (by simpa using h2)
    · rename_i e
      rw [if_neg e] at h2
      simp at h1 h2
      rw [← h1, ← h2]; exact e
theorem lcp_both {a b : Key} (h1 : lcp a b = a.length) (h2 : lcp a b = b.length) : a = b := by
  apply List.ext_getElem?
  intro i
  rcases Nat.lt_or_ge i (lcp a b) with h | h
  · exact lcp_get h
  · rw [List.getElem?_eq_none (by omega), List.getElem?_eq_none (by omega)]
/-- The first bit at which the codes differ. -/
def IsSplit (a b : Key) (s : Nat) : Prop := (∀ j, j < s → bitN a j = bitN b j) ∧ bitN a s ≠ bitN b s
theorem IsSplit.unique {a b : Key} {s t : Nat} (h : IsSplit a b s) (k : IsSplit a b t) : s = t := by
  rcases Nat.lt_trichotomy s t with h1 | h1 | h1
  · exact absurd (k.1 s h1) h.2
  · exact h1
  · exact absurd (h.1 t h1) k.2
theorem bitN_same {a b : Key} {j : Nat} (h : j < 9 * lcp a b) : bitN a j = bitN b j := by
  have hj : j / 9 < lcp a b := by omega
  obtain ⟨l1, l2⟩ := lcp_le a b
  have e := lcp_get hj
  unfold bitN
  rw [if_neg (show ¬ a.length ≤ j / 9 by omega), if_neg (show ¬ b.length ≤ j / 9 by omega), List.getD_eq_getElem?_getD, List.getD_eq_getElem?_getD, e]
theorem byte_bits {x y : Nat} (hx : x < 256) (hy : y < 256) (h : x ≠ y) : ∃ r, 1 ≤ r ∧ r < 9 ∧ x / 2 ^ (8 - r) % 2 ≠ y / 2 ^ (8 - r) % 2 := by
  apply Classical.byContradiction
  intro hn
  have f : ∀ r, 1 ≤ r → r < 9 → x / 2 ^ (8 - r) % 2 = y / 2 ^ (8 - r) % 2 := fun r h1 h2 => Classical.byContradiction fun e => hn ⟨r, h1, h2, e⟩
  have f1 := f 1 (by omega) (by omega)
  have f2 := f 2 (by omega) (by omega)
  have f3 := f 3 (by omega) (by omega)
  have f4 := f 4 (by omega) (by omega)
  have f5 := f 5 (by omega) (by omega)
  have f6 := f 6 (by omega) (by omega)
  have f7 := f 7 (by omega) (by omega)
  have f8 := f 8 (by omega) (by omega)
  simp only [Nat.reduceSub, Nat.reducePow] at f1 f2 f3 f4 f5 f6 f7 f8
  omega
theorem split_near {a b : Key} (h : a ≠ b) : ∃ i, i < 9 ∧ bitN a (9 * lcp a b + i) ≠ bitN b (9 * lcp a b + i) := by
  obtain ⟨l1, l2⟩ := lcp_le a b
  by_cases h1 : lcp a b = a.length
  · have h2 : lcp a b ≠ b.length := fun e => h (lcp_both h1 e)
    refine ⟨0, by omega, ?_⟩
    unfold bitN
    rw [if_pos (by omega), if_neg (by omega), if_pos (by omega)]
    omega
  · by_cases h2 : lcp a b = b.length
    · refine ⟨0, by omega, ?_⟩
      unfold bitN
      rw [if_neg (by omega), if_pos (by omega), if_pos (by omega)]
      omega
    · obtain ⟨x, hx⟩ : ∃ x, a[lcp a b]? = some x := ⟨_, List.getElem?_eq_getElem (by omega)⟩
      obtain ⟨y, hy⟩ : ∃ y, b[lcp a b]? = some y := ⟨_, List.getElem?_eq_getElem (by omega)⟩
      have hne := lcp_end hx hy
      obtain ⟨r, hr1, hrl, hr⟩ := byte_bits x.toNat_lt y.toNat_lt (fun e => hne (UInt8.toNat_inj.1 e))
      refine ⟨r, hrl, ?_⟩
      unfold bitN
      rw [if_neg (by omega), if_neg (by omega), if_neg (by omega), if_neg (by omega)]
      rw [show (9 * lcp a b + r) / 9 = lcp a b by omega, show (9 * lcp a b + r) % 9 = r by omega, List.getD_eq_getElem?_getD, List.getD_eq_getElem?_getD, hx, hy]
      exact hr
/-- The first difference among nine bits. -/
def near (a b : Key) (n : Nat) : Nat := ((List.range 9).find? fun i => bitN a (9 * n + i) != bitN b (9 * n + i)).getD 0
def splitN (a b : Key) : Nat := 9 * lcp a b + near a b (lcp a b)
def split (a b : Key) : Int := if a = b then -1 else (splitN a b : Nat)
theorem split_spec {a b : Key} (h : a ≠ b) : IsSplit a b (splitN a b) ∧ near a b (lcp a b) < 9 := by
  obtain ⟨i, hi, hd⟩ := split_near h
  unfold splitN near
  cases hf : (List.range 9).find? fun i => bitN a (9 * lcp a b + i) != bitN b (9 * lcp a b + i) with
  | none => exact absurd (List.find?_eq_none.1 hf i (List.mem_range.2 hi)) (by simpa using hd)
  | some j =>
    obtain ⟨hj, n, hn, e, hbef⟩ := List.find?_eq_some_iff_getElem.1 hf
    have hnj : n = j := by simpa using e
    subst hnj
    simp only [List.length_range] at hn
    refine ⟨⟨fun k hk => ?_, by simpa using hj⟩, hn⟩
    rcases Nat.lt_or_ge k (9 * lcp a b) with h1 | h1
    · exact bitN_same h1
    · have := hbef (k - 9 * lcp a b) (by simp at hk; omega)
      simp only [List.getElem_range, show 9 * lcp a b + (k - 9 * lcp a b) = k by omega] at this
      simpa using this
theorem split_of {a b : Key} (h : a ≠ b) {s : Nat} (hs : IsSplit a b s) : split a b = (s : Int) := by
  unfold split
  rw [if_neg h, (split_spec h).1.unique hs]
theorem split_self (a : Key) : split a a = -1 := if_pos rfl
theorem split_lt {a b : Key} (h : a ≠ b) : splitN a b < 9 * (min a.length b.length) + 9 := by
  have := (split_spec h).2
  have := lcp_le a b
  unfold splitN
  omega
theorem split_comm (a b : Key) : split a b = split b a := by
  by_cases h : a = b
  · rw [h]
  · have hs := (split_spec h).1
    rw [split_of h hs, split_of (fun e => h e.symm) ⟨fun j hj => (hs.1 j hj).symm, fun e => hs.2 e.symm⟩]
end Ob

/-
  The order of keys: the lesser one has the bit 0 at the first difference.
-/
import Derived.Test.YthoaenpbmmjokaaDoorObP
import GoSem.Op.String
namespace Ob
open Go.Op
theorem less_lcp : ∀ {a b : Key}, bytesLess a b = true → (lcp a b = a.length ∧ a.length < b.length) ∨ (∃ x y : UInt8, a[lcp a b]? = some x ∧ b[lcp a b]? = some y ∧ x < y)
  | [], [], h => by simp [bytesLess] at h
  | [], _ :: _, _ => .inl ⟨rfl, by simp⟩
  | _ :: _, [], h => by simp [bytesLess] at h
  | x :: a, y :: b, h => by
    by_cases hxy : x = y
    · subst hxy
      have h' : bytesLess a b = true := by
        rw [bytesLess] at h
        simpa [UInt8.lt_irrefl] using h
      rcases less_lcp h' with ⟨h1, h2⟩ | ⟨u, v, h1, h2, h3⟩
      · exact .inl ⟨by simp [lcp, h1], by simp; omega⟩
      · exact .inr ⟨u, v, by simpa [lcp] using h1, by simpa [lcp] using h2, h3⟩
    · have h' : x < y := by
        rw [bytesLess] at h
        simpa [hxy] using h
      exact .inr ⟨x, y, by simp [lcp, hxy], by simp [lcp, hxy], h'⟩
/-- Bits that agree from the top down to r. -/
theorem high_same {x y : Nat} (hx : x < 256) (hy : y < 256) : ∀ r, r ≤ 8 → (∀ j, 1 ≤ j → j ≤ r → x / 2 ^ (8 - j) % 2 = y / 2 ^ (8 - j) % 2) → x / 2 ^ (8 - r) = y / 2 ^ (8 - r)
  | 0, _, _ => by rw [Nat.div_eq_of_lt (by simpa using hx), Nat.div_eq_of_lt (by simpa using hy)]
  | r + 1, hr, h => by
    have ih := high_same hx hy r (by omega) (fun j h1 h2 => h j h1 (by omega))
    have h1 := h (r + 1) (by omega) (Nat.le_refl _)
    have e : 8 - r = (8 - (r + 1)) + 1 := by omega
    rw [e, Nat.pow_succ, ← Nat.div_div_eq_div_mul, ← Nat.div_div_eq_div_mul] at ih
    omega
theorem bitN_zero {k : Key} {n : Nat} (h : k.length ≤ n) : bitN k (9 * n) = 0 := by
  unfold bitN
  rw [if_pos (by omega)]
theorem bitN_one {k : Key} {n : Nat} (h : n < k.length) : bitN k (9 * n) = 1 := by
  unfold bitN
  rw [if_neg (by omega), if_pos (by omega)]
theorem bitN_in {k : Key} {n r : Nat} {x : UInt8} (h : k[n]? = some x) (h1 : 1 ≤ r) (h2 : r ≤ 8) : bitN k (9 * n + r) = x.toNat / 2 ^ (8 - r) % 2 := by
  have hn := (List.getElem?_eq_some_iff.1 h).1
  have e1 : (9 * n + r) / 9 = n := by omega
  have e2 : (9 * n + r) % 9 = r := by omega
  unfold bitN
  rw [e1, e2, if_neg (by omega), if_neg (by omega), List.getD_eq_getElem?_getD, h]
  rfl
theorem ne_of_less {a b : Key} (h : bytesLess a b = true) : a ≠ b := by
  rintro rfl
  rcases less_lcp h with ⟨_, h2⟩ | ⟨x, y, h1, h2, h3⟩
  · omega
  · rw [h1] at h2
    cases h2
    exact absurd h3 (UInt8.lt_irrefl _)
/-- The lesser key has the bit 0 at the first difference, the greater one the bit 1. -/
theorem less_bits {a b : Key} (h : bytesLess a b = true) : bitN a (splitN a b) = 0 ∧ bitN b (splitN a b) = 1 := by
  have hne := ne_of_less h
  have hs := (split_spec hne).1
  rcases less_lcp h with ⟨h1, h2⟩ | ⟨x, y, h1, h2, h3⟩
  · have h0 : bitN a (9 * lcp a b) = 0 := bitN_zero (by omega)
    have h1' : bitN b (9 * lcp a b) = 1 := bitN_one (by omega)
    have hu : IsSplit a b (9 * lcp a b) := ⟨fun j hj => bitN_same hj, by omega⟩
    rw [hs.unique hu]
    exact ⟨h0, h1'⟩
  · have hl := split_spec hne
    have ha := (List.getElem?_eq_some_iff.1 h1).1
    have hb := (List.getElem?_eq_some_iff.1 h2).1
    obtain ⟨r, hr⟩ : ∃ r, near a b (lcp a b) = r := ⟨_, rfl⟩
    have hsn : splitN a b = 9 * lcp a b + r := by unfold splitN; rw [hr]
    rw [hr, hsn] at hl
    rw [hsn]
    obtain ⟨hl, hr9⟩ := hl
    have hr1 : 1 ≤ r := by
      refine Nat.pos_of_ne_zero fun e => hl.2 ?_
      subst e
      rw [Nat.add_zero, bitN_one ha, bitN_one hb]
    have hd := hl.2
    rw [bitN_in h1 hr1 (by omega), bitN_in h2 hr1 (by omega)] at hd ⊢
    have hh := high_same (x := x.toNat) (y := y.toNat) (UInt8.toNat_lt x) (UInt8.toNat_lt y) (r - 1) (by omega) (fun j j1 j2 => by
      have := hl.1 (9 * lcp a b + j) (by omega)
      rw [bitN_in h1 j1 (by omega), bitN_in h2 j1 (by omega)] at this
      exact this)
    have e : 8 - (r - 1) = (8 - r) + 1 := by omega
    rw [e, Nat.pow_succ, ← Nat.div_div_eq_div_mul, ← Nat.div_div_eq_div_mul] at hh
    have hlt : x.toNat < y.toNat := h3
    have hle : x.toNat / 2 ^ (8 - r) ≤ y.toNat / 2 ^ (8 - r) := Nat.div_le_div_right (Nat.le_of_lt hlt)
    omega
theorem less_trans : ∀ {a b c : Key}, bytesLess a b = true → bytesLess b c = true → bytesLess a c = true
  | _, _, [], _, h => by simp [bytesLess] at h
  | [], _, _ :: _, _, _ => rfl
  | _ :: _, [], _ :: _, h, _ => by simp [bytesLess] at h
  | x :: a, y :: b, z :: c, h, k => by
    rw [bytesLess] at h k ⊢
    simp only [Bool.or_eq_true, Bool.and_eq_true, decide_eq_true_eq, beq_iff_eq] at h k ⊢
    rcases h with h | ⟨rfl, h⟩
    · rcases k with k | ⟨rfl, k⟩
      · exact .inl (UInt8.lt_trans h k)
      · exact .inl h
    · rcases k with k | ⟨rfl, k⟩
      · exact .inl k
      · exact .inr ⟨rfl, less_trans h k⟩
theorem less_total : ∀ {a b : Key}, a ≠ b → bytesLess a b = false → bytesLess b a = true
  | [], [], h, _ => absurd rfl h
  | [], _ :: _, _, h => by simp [bytesLess] at h
  | _ :: _, [], _, _ => rfl
  | x :: a, y :: b, h, k => by
    rw [bytesLess] at k ⊢
    simp only [Bool.or_eq_true, Bool.and_eq_true, decide_eq_true_eq, beq_iff_eq, Bool.or_eq_false_iff, decide_eq_false_iff_not] at k ⊢
    by_cases e : x = y
    · subst e
      exact .inr ⟨rfl, less_total (fun e => h (by rw [e])) (by simpa using k.2)⟩
    · left
      have h1 : ¬ x.toNat < y.toNat := k.1
      have h2 : x.toNat ≠ y.toNat := fun e' => e (UInt8.toNat_inj.1 e')
      show y.toNat < x.toNat
      omega
end Ob

/-
  The encoding tells commands apart, and no encoding begins another. Plain Lean.
-/
import Derived.Test.YtajohibeoicepaaDoorSySta
import Derived.Test.YtajohibeoicepaaDoorSyQ
namespace Sy
open Go.Op
theorem less_trans : ∀ {a b c : List UInt8}, bytesLess a b = true → bytesLess b c = true → bytesLess a c = true
  | _, [], _, h, _ => by simp [bytesLess] at h
  | _, _ :: _, [], _, h => by simp [bytesLess] at h
  | [], _ :: _, _ :: _, _, _ => by simp [bytesLess]
  | x :: a, y :: b, z :: c, h1, h2 => by
    simp only [bytesLess, Bool.or_eq_true, Bool.and_eq_true, decide_eq_true_iff, beq_iff_eq] at h1 h2 ⊢
    rcases h1 with h1 | ⟨rfl, h1⟩
    · rcases h2 with h2 | ⟨rfl, h2⟩
      · exact .inl (UInt8.lt_trans h1 h2)
      · exact .inl h1
    · rcases h2 with h2 | ⟨rfl, h2⟩
      · exact .inl h2
      · exact .inr ⟨rfl, less_trans h1 h2⟩
theorem less_irrefl : ∀ (a : List UInt8), ¬ bytesLess a a = true
  | [] => by simp [bytesLess]
  | x :: a => by
    simp only [bytesLess, Bool.or_eq_true, Bool.and_eq_true, decide_eq_true_iff, beq_iff_eq]
    rintro (h | ⟨-, h⟩)
    · exact UInt8.lt_irrefl _ h
    · exact less_irrefl a h
theorem less_asymm {a b : List UInt8} (h1 : bytesLess a b = true) (h2 : bytesLess b a = true) : False := less_irrefl _ (less_trans h1 h2)
theorem uintF_cut : ∀ (k : Nat) {n m : BitVec 64} {s t : List UInt8}, n.toNat < 128 ^ k → m.toNat < 128 ^ k → Wire.uintF k n ++ s = Wire.uintF k m ++ t → n = m ∧ s = t
  | 0, n, m, s, t, hn, hm, h => by
    have : n.toNat = m.toNat := by simp at hn hm; omega
    exact ⟨BitVec.eq_of_toNat_eq this, by simpa [Wire.uintF] using h⟩
  | k + 1, n, m, s, t, hn, hm, h => by
    by_cases h1 : n.toNat < 128
    · by_cases h2 : m.toNat < 128
      · rw [Wire.uintF_lt h1, Wire.uintF_lt h2] at h
        simp only [List.cons_append, List.nil_append, List.cons.injEq] at h
        have e := congrArg UInt8.toNat h.1
        rw [UInt8.toNat_ofNat', UInt8.toNat_ofNat'] at e
        exact ⟨BitVec.eq_of_toNat_eq (by omega), h.2⟩
      · rw [Wire.uintF_lt h1, Wire.uintF_ge h2] at h
        simp only [List.cons_append, List.nil_append, List.cons.injEq] at h
        have e := congrArg UInt8.toNat h.1
        rw [UInt8.toNat_ofNat', UInt8.toNat_ofNat'] at e
        omega
    · by_cases h2 : m.toNat < 128
      · rw [Wire.uintF_ge h1, Wire.uintF_lt h2] at h
        simp only [List.cons_append, List.nil_append, List.cons.injEq] at h
        have e := congrArg UInt8.toNat h.1
        rw [UInt8.toNat_ofNat', UInt8.toNat_ofNat'] at e
        omega
      · rw [Wire.uintF_ge h1, Wire.uintF_ge h2] at h
        simp only [List.cons_append, List.cons.injEq] at h
        have e := congrArg UInt8.toNat h.1
        rw [UInt8.toNat_ofNat', UInt8.toNat_ofNat'] at e
        have hp : 128 ^ (k + 1) = 128 ^ k * 128 := Nat.pow_succ ..
        obtain ⟨h3, h4⟩ := uintF_cut k (n := n >>> 7) (m := m >>> 7) (by rw [Wire.shr7]; omega) (by rw [Wire.shr7]; omega) h.2
        have h5 := congrArg BitVec.toNat h3
        rw [Wire.shr7, Wire.shr7] at h5
        exact ⟨BitVec.eq_of_toNat_eq (by omega), h4⟩
theorem uint_cut {n m : BitVec 64} {s t : List UInt8} (h : Wire.uint n ++ s = Wire.uint m ++ t) : n = m ∧ s = t :=
  uintF_cut 10 (Nat.lt_of_lt_of_le n.isLt (by decide)) (Nat.lt_of_lt_of_le m.isLt (by decide)) h
theorem int_cut {n m : I64} {s t : List UInt8} (h : Wire.int n ++ s = Wire.int m ++ t) : n = m ∧ s = t := by
  obtain ⟨h1, h2⟩ := uint_cut h
  refine ⟨?_, h2⟩
  have h3 := congrArg BitVec.toNat h1
  have hn := n.2
  have hm := m.2
  unfold Wire.zig at h3
  apply Subtype.ext
  split at h3 <;> split at h3 <;> rw [BitVec.toNat_ofInt, BitVec.toNat_ofInt] at h3 <;> omega
theorem len_cut {a b : Nat} {s t : List UInt8} (ha : a ≤ 1000) (hb : b ≤ 1000) (h : Wire.uint (BitVec.ofNat 64 a) ++ s = Wire.uint (BitVec.ofNat 64 b) ++ t) : a = b ∧ s = t := by
  obtain ⟨h1, h2⟩ := uint_cut h
  have h3 := congrArg BitVec.toNat h1
  rw [BitVec.toNat_ofNat, BitVec.toNat_ofNat] at h3
  exact ⟨by omega, h2⟩
theorem bts_cut {a b s t : List UInt8} (ha : a.length ≤ 1000) (hb : b.length ≤ 1000) (h : bts a ++ s = bts b ++ t) : a = b ∧ s = t := by
  unfold bts at h
  rw [List.append_assoc, List.append_assoc] at h
  obtain ⟨h1, h2⟩ := len_cut ha hb h
  exact List.append_inj h2 h1
theorem wts_cut : ∀ {a b : List Wt} {s t : List UInt8}, a.length = b.length → (∀ v ∈ a, v.object.length ≤ 1000 ∧ v.delta.length ≤ 1000) → (∀ v ∈ b, v.object.length ≤ 1000 ∧ v.delta.length ≤ 1000) → wts a ++ s = wts b ++ t → a = b ∧ s = t
  | [], [], s, t, _, _, _, h => ⟨rfl, by simpa [wts] using h⟩
  | [], _ :: _, _, _, h, _, _, _ => by simp at h
  | _ :: _, [], _, _, h, _, _, _ => by simp at h
  | x :: a, y :: b, s, t, hl, ha, hb, h => by
    simp only [wts, List.append_assoc] at h
    obtain ⟨h1, h2⟩ := bts_cut (ha x List.mem_cons_self).1 (hb y List.mem_cons_self).1 h
    obtain ⟨h3, h4⟩ := bts_cut (ha x List.mem_cons_self).2 (hb y List.mem_cons_self).2 h2
    obtain ⟨h5, h6⟩ := wts_cut (by simpa using hl) (fun v hv => ha v (List.mem_cons_of_mem _ hv)) (fun v hv => hb v (List.mem_cons_of_mem _ hv)) h4
    refine ⟨?_, h6⟩
    subst h5
    cases x; cases y
    simp only at h1 h3
    subst h1
    subst h3
    rfl
theorem OkCm.small {x : Cm} (h : OkCm x) : ∀ v ∈ x.writes, v.object.length ≤ 1000 ∧ v.delta.length ≤ 1000 := fun v hv => by
  obtain ⟨k, hk, rfl⟩ := List.getElem_of_mem hv
  have := h.2.2 k _ (List.getElem?_eq_getElem hk)
  omega
/-- Encodings are told apart, whatever follows them. -/
theorem enc_cut {x y : Cm} {s t : List UInt8} (hx : OkCm x) (hy : OkCm y) (h : enc x ++ s = enc y ++ t) : x = y ∧ s = t := by
  simp only [enc, bare, head, List.append_assoc] at h
  obtain ⟨h1, h⟩ := int_cut h
  obtain ⟨h2, h⟩ := int_cut h
  obtain ⟨h3, h⟩ := int_cut h
  obtain ⟨h4, h⟩ := len_cut (by have := hx.1; omega) (by have := hy.1; omega) h
  obtain ⟨h5, h⟩ := wts_cut h4 hx.small hy.small h
  obtain ⟨h6, h⟩ := int_cut h
  obtain ⟨h7, h⟩ := bts_cut (by have := hx.2.1; omega) (by have := hy.2.1; omega) h
  refine ⟨?_, h⟩
  cases x; cases y
  simp only at h1 h2 h3 h5 h6 h7
  subst h1; subst h2; subst h3; subst h5; subst h6; subst h7
  rfl
theorem enc_inj {x y : Cm} (hx : OkCm x) (hy : OkCm y) (h : enc x = enc y) : x = y := (enc_cut (s := []) (t := []) hx hy (by rw [h])).1
theorem nib {a b : UInt8} (h1 : UInt8.ofNat (a.toNat / 16) = UInt8.ofNat (b.toNat / 16)) (h2 : UInt8.ofNat (a.toNat % 16) = UInt8.ofNat (b.toNat % 16)) : a = b := by
  have e1 := congrArg UInt8.toNat h1
  have e2 := congrArg UInt8.toNat h2
  rw [UInt8.toNat_ofNat', UInt8.toNat_ofNat'] at e1 e2
  have := a.toNat_lt
  have := b.toNat_lt
  exact UInt8.toNat_inj.1 (by omega)
theorem digs_pre : ∀ {a b t : List UInt8}, digs a ++ t = digs b → ∃ s, a ++ s = b
  | [], b, _, _ => ⟨b, rfl⟩
  | x :: a, [], _, h => by simp [digs] at h
  | x :: a, y :: b, t, h => by
    simp only [digs, List.cons_append, List.cons.injEq] at h
    obtain ⟨s, hs⟩ := digs_pre h.2.2
    exact ⟨s, by rw [nib h.1 h.2.1, List.cons_append, hs]⟩
theorem digs_inj {a b : List UInt8} (h : digs a = digs b) : a = b := by
  obtain ⟨s, hs⟩ := digs_pre (a := a) (b := b) (t := []) (by simpa using h)
  have h1 := congrArg List.length h
  rw [length_digs, length_digs, ← hs, List.length_append] at h1
  have : s = [] := List.eq_nil_of_length_eq_zero (by omega)
  rw [← hs, this, List.append_nil]
theorem digs_small : ∀ {l : List UInt8}, ∀ y ∈ digs l, y.toNat < 16
  | [], y, h => by cases h
  | b :: l, y, h => by
    have := b.toNat_lt
    simp only [digs, List.mem_cons] at h
    rcases h with rfl | rfl | h
    · rw [UInt8.toNat_ofNat']; omega
    · rw [UInt8.toNat_ofNat']; omega
    · exact digs_small y h
/-- No digits of one command begin those of another. -/
theorem digs_cut {x y : Cm} {t : List UInt8} (hx : OkCm x) (hy : OkCm y) (h : digs (enc x) ++ t = digs (enc y)) : x = y := by
  obtain ⟨s, hs⟩ := digs_pre h
  exact (enc_cut (t := []) hx hy (by rw [hs, List.append_nil])).1
theorem cmp_less {x y : Cm} : cmp x y < 0 ↔ x.client.val < y.client.val ∨ (x.client.val = y.client.val ∧ (x.seq.val < y.seq.val ∨ (x.seq.val = y.seq.val ∧ enc x ≠ enc y ∧ bytesLess (enc x) (enc y) = true))) := by
  unfold cmp
  by_cases h1 : x.client.val = y.client.val
  · rw [if_pos h1]
    by_cases h2 : x.seq.val = y.seq.val
    · rw [if_pos h2]
      by_cases h3 : enc x = enc y
      · rw [if_pos h3]
        constructor
        · intro h; omega
        · rintro (h | ⟨-, h | ⟨-, h, -⟩⟩)
          · omega
          · omega
          · exact absurd h3 h
      · rw [if_neg h3]
        by_cases h4 : bytesLess (enc x) (enc y) = true
        · rw [if_pos h4]
          exact ⟨fun _ => .inr ⟨h1, .inr ⟨h2, h3, h4⟩⟩, fun _ => by omega⟩
        · rw [if_neg h4]
          exact ⟨fun h => by omega, by rintro (h | ⟨-, h | ⟨-, -, h⟩⟩) <;> first | omega | exact absurd h h4⟩
    · rw [if_neg h2]
      by_cases h3 : x.seq.val < y.seq.val
      · rw [if_pos h3]; exact ⟨fun _ => .inr ⟨h1, .inl h3⟩, fun _ => by omega⟩
      · rw [if_neg h3]
        exact ⟨fun h => by omega, by rintro (h | ⟨-, h | ⟨h, -⟩⟩) <;> omega⟩
  · rw [if_neg h1]
    by_cases h3 : x.client.val < y.client.val
    · rw [if_pos h3]; exact ⟨fun _ => .inl h3, fun _ => by omega⟩
    · rw [if_neg h3]
      exact ⟨fun h => by omega, by rintro (h | ⟨h, -⟩) <;> omega⟩
theorem cmp_trans {x y z : Cm} (h1 : cmp x y < 0) (h2 : cmp y z < 0) : cmp x z < 0 := by
  rw [cmp_less] at *
  rcases h1 with h1 | ⟨h1, h1' | ⟨h1', h1''⟩⟩ <;> rcases h2 with h2 | ⟨h2, h2' | ⟨h2', h2''⟩⟩
  · exact .inl (by omega)
  · exact .inl (by omega)
  · exact .inl (by omega)
  · exact .inl (by omega)
  · exact .inr ⟨by omega, .inl (by omega)⟩
  · exact .inr ⟨by omega, .inl (by omega)⟩
  · exact .inl (by omega)
  · exact .inr ⟨by omega, .inl (by omega)⟩
  · exact .inr ⟨by omega, .inr ⟨by omega, (fun e => by rw [← e] at h2''; exact less_asymm h1''.2 h2''.2), less_trans h1''.2 h2''.2⟩⟩
theorem cmp_irrefl (x : Cm) : ¬ cmp x x < 0 := by simp [cmp]
theorem State.ok {s : List Cm} (h : State s) : ∀ x ∈ s, OkCm x := fun x hx => by
  obtain ⟨i, hi, rfl⟩ := List.getElem_of_mem hx
  obtain ⟨y, hy, h1, -⟩ := h.2 i hi
  rw [List.getElem?_eq_getElem hi] at hy
  cases hy
  exact h1
theorem State.lt {s : List Cm} (h : State s) : ∀ (j i : Nat) (x y : Cm), i < j → s[i]? = some x → s[j]? = some y → cmp x y < 0
  | 0, _, _, _, h0, _, _ => by omega
  | j + 1, i, x, y, hij, hx, hy => by
    have hj : j + 1 < s.length := (List.getElem?_eq_some_iff.1 hy).1
    obtain ⟨y', hy', -, h3⟩ := h.2 (j + 1) hj
    rw [hy] at hy'
    cases hy'
    obtain ⟨z, hz⟩ : ∃ z, s[j]? = some z := ⟨_, List.getElem?_eq_getElem (by omega)⟩
    have h4 := h3 (by omega) z hz
    by_cases hij' : i = j
    · subst hij'
      rw [hx] at hz
      cases hz
      exact h4
    · exact cmp_trans (State.lt h j i x z (by omega) hx hz) h4
/-- A state holds no command twice. -/
theorem State.nodup {s : List Cm} (h : State s) : s.Nodup := by
  rw [List.nodup_iff_pairwise_ne, List.pairwise_iff_getElem]
  intro i j hi hj hij e
  have h1 := h.lt j i _ _ hij (List.getElem?_eq_getElem hi) (List.getElem?_eq_getElem hj)
  rw [e] at h1
  exact cmp_irrefl _ h1
theorem mem_part {p : List UInt8} {s : List Cm} {x : Cm} : x ∈ part p s ↔ x ∈ s ∧ p <+: digs (enc x) := by
  unfold part
  rw [List.mem_filter, List.isPrefixOf_iff_prefix]
/-- The commands of a part of more than one command go on behind the prefix. -/
theorem State.long {s : List Cm} (h : State s) {p : List UInt8} (h2 : 2 ≤ (part p s).length) : ∀ x ∈ part p s, p.length < (digs (enc x)).length := by
  intro x hx
  have hd : (part p s).Nodup := h.nodup.filter _
  obtain ⟨y, hy, hne⟩ : ∃ y ∈ part p s, y ≠ x := by
    match hp : part p s, h2, hd, hx with
    | a :: b :: r, _, hd, hx =>
      by_cases ha : a = x
      · refine ⟨b, by simp, fun e => ?_⟩
        rw [List.nodup_cons] at hd
        exact hd.1 (by rw [ha, ← e]; exact List.mem_cons_self)
      · exact ⟨a, by simp, ha⟩
  obtain ⟨hx1, t, ht⟩ := mem_part.1 hx
  obtain ⟨hy1, u, hu⟩ := mem_part.1 hy
  rw [← ht, List.length_append]
  cases t with
  | nil =>
    rw [List.append_nil] at ht
    rw [ht] at hu
    exact absurd (digs_cut (h.ok x hx1) (h.ok y hy1) hu) (fun e => hne e.symm)
  | cons a t => simp
theorem kids_sum (p : List UInt8) : ∀ s : List Cm, (∀ x ∈ s, p <+: digs (enc x) → p.length < (digs (enc x)).length) → sumK (fun i => (part (p ++ [UInt8.ofNat i]) s).length) 16 = (part p s).length
  | [], _ => by rw [show (fun i => (part (p ++ [UInt8.ofNat i]) []).length) = fun _ => 0 from rfl, sumK_zero]; rfl
  | x :: s, h => by
    rw [part_cons, ← kids_sum p s (fun y hy => h y (List.mem_cons_of_mem _ hy))]
    rw [← show sumK (fun i => at1 (p ++ [UInt8.ofNat i]) (digs (enc x)) + (part (p ++ [UInt8.ofNat i]) s).length) 16 = sumK (fun i => (part (p ++ [UInt8.ofNat i]) (x :: s)).length) 16 from sumK_congr 16 fun i _ => (part_cons _ x s).symm, sumK_add, at1_sum]
    congr 1
    unfold at1
    by_cases hp : p.isPrefixOf (digs (enc x)) = true
    · rw [if_pos hp, if_pos hp]
      have hp' := List.isPrefixOf_iff_prefix.1 hp
      have hl := h x List.mem_cons_self hp'
      obtain ⟨t, ht⟩ := hp'
      rw [← ht] at hl ⊢
      rw [List.drop_left]
      cases t with
      | nil => simp at hl
      | cons a t =>
        rw [if_pos ⟨a, rfl, digs_small (l := enc x) a (by rw [← ht]; simp)⟩]
    · rw [if_neg hp, if_neg hp]
theorem State.sum {s : List Cm} (h : State s) {p : List UInt8} (h2 : 2 ≤ (part p s).length) : sumK (fun i => (part (p ++ [UInt8.ofNat i]) s).length) 16 = (part p s).length :=
  kids_sum p s fun _ hx hp => h.long h2 _ (mem_part.2 ⟨hx, hp⟩)
theorem sub_part {p : List UInt8} {y : UInt8} {s : List Cm} {x : Cm} (h : x ∈ part (p ++ [y]) s) : x ∈ part p s := by
  obtain ⟨h1, t, ht⟩ := mem_part.1 h
  exact mem_part.2 ⟨h1, [y] ++ t, by rw [← ht, List.append_assoc]⟩
end Sy

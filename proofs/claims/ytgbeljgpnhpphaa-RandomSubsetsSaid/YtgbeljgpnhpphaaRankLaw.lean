/-
  Ranks of permutations: the permutation of a rank has this rank, the greater one has the greater rank.
-/
import Derived.Test.YtgbeljgpnhpphaaPerm
namespace Rnd
def Sorted (l : List Nat) : Prop := l.Pairwise (· < ·)
theorem sorted_range (n : Nat) : Sorted (List.range n) := List.pairwise_lt_range
theorem sorted_erase {l : List Nat} (h : Sorted l) (k : Nat) : Sorted (l.eraseIdx k) := List.Pairwise.sublist (List.eraseIdx_sublist l k) h
theorem sorted_lt {l : List Nat} (h : Sorted l) {i j : Nat} (hj : j < l.length) (hij : i < j) : l[i] < l[j] := List.pairwise_iff_getElem.1 h i j (by omega) hj hij
theorem cons_erase_perm (l : List Nat) (k : Nat) (hk : k < l.length) : (l[k] :: l.eraseIdx k).Perm l := by
  have h : l = l.take k ++ l[k] :: l.drop (k + 1) := by
    rw [← List.drop_eq_getElem_cons hk, List.take_append_drop]
  rw [List.eraseIdx_eq_take_drop_succ]
  exact List.perm_middle.symm.trans (by rw [← h])
/-- In a sorted list just k elements are less than element k. -/
theorem lessN_erase {l : List Nat} (h : Sorted l) (k : Nat) (hk : k < l.length) {r : List Nat} (hr : r.Perm (l.eraseIdx k)) : lessN l[k] r = k := by
  unfold lessN
  rw [hr.countP_eq, List.eraseIdx_eq_take_drop_succ, List.countP_append]
  have h1 : (l.take k).countP (fun y => decide (y < l[k])) = k := by
    rw [List.countP_eq_length.2, List.length_take]
    · omega
    · intro a ha
      obtain ⟨i, hi, rfl⟩ := List.getElem_of_mem ha
      have hi' : i < k := by simp at hi; omega
      rw [List.getElem_take]
      simpa using sorted_lt h hk hi'
  have h2 : (l.drop (k + 1)).countP (fun y => decide (y < l[k])) = 0 := by
    rw [List.countP_eq_zero]
    intro a ha
    obtain ⟨i, hi, rfl⟩ := List.getElem_of_mem ha
    simp at hi
    rw [List.getElem_drop]
    have := sorted_lt h (i := k) (j := k + 1 + i) (by omega) (by omega)
    simp
    omega
  omega
theorem perm_split {l r : List Nat} {x : Nat} (h : (x :: r).Perm l) : ∃ k, ∃ hk : k < l.length, l[k] = x ∧ r.Perm (l.eraseIdx k) := by
  have hx : x ∈ l := h.subset List.mem_cons_self
  obtain ⟨k, hk, he⟩ := List.getElem_of_mem hx
  refine ⟨k, hk, he, ?_⟩
  have := h.trans (cons_erase_perm l k hk).symm
  rw [he] at this
  exact this.cons_inv
def unrankN : Nat → List Nat → Nat → List Nat
  | 0, _, _ => []
  | m + 1, l, r => l.getD (r / fact m) 0 :: unrankN m (l.eraseIdx (r / fact m)) (r % fact m)
theorem rankN_lt : ∀ (m : Nat) (ns l : List Nat), Sorted l → ns.Perm l → l.length = m → rankN ns < fact m
  | 0, ns, l, _, hp, hl => by
    have : ns = [] := List.eq_nil_of_length_eq_zero (by rw [hp.length_eq, hl])
    subst this
    decide
  | m + 1, ns, l, hs, hp, hl => by
    cases ns with
    | nil => have := hp.length_eq; simp at this; omega
    | cons x r =>
      obtain ⟨k, hk, rfl, hr⟩ := perm_split hp
      have hrl : r.length = m := by rw [hr.length_eq, List.length_eraseIdx, if_pos hk]; omega
      have ih := rankN_lt m r _ (sorted_erase hs k) hr (by rw [List.length_eraseIdx, if_pos hk]; omega)
      rw [rankN, lessN_erase hs k hk hr, hrl, fact]
      have : k * fact m + fact m ≤ (m + 1) * fact m := by
        rw [← Nat.succ_mul]
        exact Nat.mul_le_mul_right _ (by omega)
      omega
theorem unrankN_perm : ∀ (m : Nat) (l : List Nat) (r : Nat), l.length = m → r < fact m → (unrankN m l r).Perm l
  | 0, l, r, hl, _ => by
    have : l = [] := List.eq_nil_of_length_eq_zero hl
    subst this
    exact List.Perm.refl _
  | m + 1, l, r, hl, hr => by
    have hk : r / fact m < l.length := by
      rw [hl]
      exact Nat.div_lt_of_lt_mul (by rw [Nat.mul_comm]; exact hr)
    have hg : l.getD (r / fact m) 0 = l[r / fact m] := by simp [hk]
    rw [unrankN, hg]
    exact (List.Perm.cons _ (unrankN_perm m _ _ (by rw [List.length_eraseIdx, if_pos hk]; omega) (Nat.mod_lt _ (fact_pos m)))).trans (cons_erase_perm l _ hk)
theorem length_unrankN (m : Nat) (l : List Nat) (r : Nat) : (unrankN m l r).length = m := by
  induction m generalizing l r with
  | zero => rfl
  | succ m ih => rw [unrankN, List.length_cons, ih]
theorem rankN_unrankN : ∀ (m : Nat) (l : List Nat) (r : Nat), Sorted l → l.length = m → r < fact m → rankN (unrankN m l r) = r
  | 0, l, r, _, _, hr => by
    have : r = 0 := by simp [fact] at hr; omega
    subst this
    rfl
  | m + 1, l, r, hs, hl, hr => by
    have hk : r / fact m < l.length := by
      rw [hl]
      exact Nat.div_lt_of_lt_mul (by rw [Nat.mul_comm]; exact hr)
    have hg : l.getD (r / fact m) 0 = l[r / fact m] := by simp [hk]
    have hle : (l.eraseIdx (r / fact m)).length = m := by rw [List.length_eraseIdx, if_pos hk]; omega
    have hm := Nat.mod_lt r (fact_pos m)
    have hp := unrankN_perm m _ _ hle hm
    rw [unrankN, hg, rankN, lessN_erase hs _ hk hp, length_unrankN, rankN_unrankN m _ _ (sorted_erase hs _) hle hm]
    exact Nat.div_add_mod' r (fact m)
theorem unrankN_rankN : ∀ (m : Nat) (ns l : List Nat), Sorted l → ns.Perm l → l.length = m → unrankN m l (rankN ns) = ns
  | 0, ns, l, _, hp, hl => by
    have : ns = [] := List.eq_nil_of_length_eq_zero (by rw [hp.length_eq, hl])
    subst this
    rfl
  | m + 1, ns, l, hs, hp, hl => by
    cases ns with
    | nil => have := hp.length_eq; simp at this; omega
    | cons x r =>
      obtain ⟨k, hk, rfl, hr⟩ := perm_split hp
      have hle : (l.eraseIdx k).length = m := by rw [List.length_eraseIdx, if_pos hk]; omega
      have hrl : r.length = m := by rw [hr.length_eq, hle]
      have hlt := rankN_lt m r _ (sorted_erase hs k) hr hle
      have ih := unrankN_rankN m r _ (sorted_erase hs k) hr hle
      have hdiv : (k * fact m + rankN r) / fact m = k := by
        rw [Nat.mul_comm, Nat.mul_add_div (fact_pos m), Nat.div_eq_of_lt hlt, Nat.add_zero]
      have hmod : (k * fact m + rankN r) % fact m = rankN r := by
        rw [Nat.mul_comm, Nat.mul_add_mod, Nat.mod_eq_of_lt hlt]
      rw [rankN, lessN_erase hs k hk hr, hrl, unrankN, hdiv, hmod, ih]
      simp [hk]
theorem less_rank : ∀ (m : Nat) (ns ms l : List Nat), Sorted l → ns.Perm l → ms.Perm l → l.length = m → lessL (castL ns) (castL ms) = decide (rankN ns < rankN ms)
  | 0, ns, ms, l, _, hp, hq, hl => by
    have h1 : ns = [] := List.eq_nil_of_length_eq_zero (by rw [hp.length_eq, hl])
    have h2 : ms = [] := List.eq_nil_of_length_eq_zero (by rw [hq.length_eq, hl])
    subst h1 h2
    rfl
  | m + 1, ns, ms, l, hs, hp, hq, hl => by
    cases ns with
    | nil => have := hp.length_eq; simp at this; omega
    | cons x r =>
      cases ms with
      | nil => have := hq.length_eq; simp at this; omega
      | cons y s =>
        obtain ⟨i, hi, rfl, hr⟩ := perm_split hp
        obtain ⟨j, hj, rfl, hs'⟩ := perm_split hq
        have hle : ∀ k, k < l.length → (l.eraseIdx k).length = m := fun k hk => by rw [List.length_eraseIdx, if_pos hk]; omega
        have hrl : r.length = m := by rw [hr.length_eq, hle i hi]
        have hsl : s.length = m := by rw [hs'.length_eq, hle j hj]
        have hlr := rankN_lt m r _ (sorted_erase hs i) hr (hle i hi)
        have hls := rankN_lt m s _ (sorted_erase hs j) hs' (hle j hj)
        show (if ((l[i] : Nat) : Int) = ((l[j] : Nat) : Int) then lessL (castL r) (castL s) else decide (((l[i] : Nat) : Int) < ((l[j] : Nat) : Int))) = _
        rw [rankN, rankN, lessN_erase hs i hi hr, lessN_erase hs j hj hs', hrl, hsl]
        rcases Nat.lt_trichotomy i j with h | h | h
        · have := sorted_lt hs hj h
          rw [if_neg (by omega), decide_eq_true (by omega), decide_eq_true]
          have : i * fact m + fact m ≤ j * fact m := by
            rw [← Nat.succ_mul]; exact Nat.mul_le_mul_right _ h
          omega
        · subst h
          rw [if_pos rfl, less_rank m r s _ (sorted_erase hs i) hr hs' (hle i hi)]
          rw [Bool.eq_iff_iff]; simp
        · have := sorted_lt hs hi h
          rw [if_neg (by omega), decide_eq_false (by omega), decide_eq_false]
          have : j * fact m + fact m ≤ i * fact m := by
            rw [← Nat.succ_mul]; exact Nat.mul_le_mul_right _ h
          omega
/-! ### What the program adds up -/
theorem countP_range_lt (n x : Nat) (h : x ≤ n) (p : Nat → Bool) : (List.range n).countP (fun j => decide (j < x) && p j) = (List.range x).countP p := by
  obtain ⟨d, rfl⟩ : ∃ d, n = x + d := ⟨n - x, by omega⟩
  clear h
  induction d with
  | zero =>
    apply List.countP_congr
    intro j hj
    have := List.mem_range.1 hj
    simp at this
    simp [this]
  | succ d ih =>
    rw [← Nat.add_assoc, List.range_succ, List.countP_append, ih]
    simp
    intro h
    omega
theorem unseen_less {p r : List Nat} {n x : Nat} (h : (p ++ r).Perm (List.range n)) (hx : x ≤ n) : unseen (castL p) x = lessN x r := by
  have hnd : (p ++ r).Nodup := h.nodup_iff.2 List.nodup_range
  have hdis : ∀ a ∈ r, a ∉ p := fun a ha hp => (List.nodup_append.1 hnd).2.2 a hp a ha rfl
  have h1 : unseen (castL p) x = (List.range n).countP (fun j => decide (j < x) && !decide (j ∈ p)) := by
    rw [countP_range_lt n x hx]
    unfold unseen
    apply List.countP_congr
    intro j _
    simp [castL_mem]
  rw [h1, ← h.countP_eq, List.countP_append]
  have h2 : p.countP (fun j => decide (j < x) && !decide (j ∈ p)) = 0 := by
    rw [List.countP_eq_zero]
    intro a ha
    simp [ha]
  rw [h2, Nat.zero_add]
  unfold lessN
  apply List.countP_congr
  intro a ha
  simp [hdis a ha]
theorem acc_rank {ns : List Nat} (h : ns.Perm (List.range ns.length)) : ∀ k, k ≤ ns.length → accP (castL ns) k + BitVec.ofNat 64 (rankN (ns.drop k)) = BitVec.ofNat 64 (rankN ns)
  | 0, _ => by simp [accP]
  | k + 1, hk => by
    have hkl : k < ns.length := by omega
    rw [← acc_rank h k (by omega), List.drop_eq_getElem_cons hkl, rankN, accP, length_castL]
    have hg : ((castL ns).getD k 0).toNat = ns[k] := by
      rw [castL_getD]; simp [hkl]
    have ht : (castL ns).take (k + 1) = castL (ns.take (k + 1)) := by simp [castL, List.map_take]
    have hx : ns[k] ≤ ns.length := by
      have := List.mem_range.1 (h.subset (List.getElem_mem hkl))
      omega
    rw [hg, ht, unseen_less (r := ns.drop (k + 1)) (n := ns.length) (by rw [List.take_append_drop]; exact h) hx, BitVec.ofNat_add, BitVec.ofNat_mul, List.length_drop]
    unfold fw
    rw [show ns.length - 1 - k = ns.length - (k + 1) by omega, BitVec.add_assoc]
/-- The rank of a good list. -/
theorem rankP_castL {ns : List Nat} (h : ns.Perm (List.range ns.length)) (hl : ns.length ≤ 20) : rankP (castL ns) = some (BitVec.ofNat 64 (rankN ns)) := by
  have hg : goodP (castL ns) = true := by
    unfold goodP
    rw [length_castL, decide_eq_true hl, Bool.true_and, List.all_eq_true]
    exact fun i hi => perm_good h i (by simpa using hi)
  unfold rankP
  rw [if_pos hg, length_castL]
  have := acc_rank h ns.length (Nat.le_refl _)
  rw [List.drop_of_length_le (Nat.le_refl _)] at this
  rw [← this]
  simp [rankN]
theorem rankP_none {zs : List Int} (h : ¬ (zs.length ≤ 20 ∧ permB zs = true)) : rankP zs = none := by
  unfold rankP goodP
  rw [if_neg]
  rw [Bool.and_eq_true, decide_eq_true_eq]
  exact h
theorem rankP_some {zs : List Int} {x : BitVec 64} (h : rankP zs = some x) : ∃ ns, zs = castL ns ∧ ns.Perm (List.range ns.length) ∧ ns.length ≤ 20 ∧ x = BitVec.ofNat 64 (rankN ns) := by
  by_cases hg : zs.length ≤ 20 ∧ permB zs = true
  · obtain ⟨ns, rfl, hp⟩ := (good_iff zs).1 hg.2
    rw [length_castL] at hp hg
    rw [rankP_castL hp hg.1] at h
    exact ⟨ns, rfl, hp, hg.1, (Option.some.inj h).symm⟩
  · rw [rankP_none hg] at h
    cases h
theorem fact_le (n : Nat) (h : n ≤ 20) : fact n ≤ 2432902008176640000 := by
  have : ∀ m : Fin 21, fact m.val ≤ 2432902008176640000 := by decide +kernel
  exact this ⟨n, by omega⟩
theorem rank_toNat {ns : List Nat} (h : ns.Perm (List.range ns.length)) (hl : ns.length ≤ 20) : (BitVec.ofNat 64 (rankN ns)).toNat = rankN ns := by
  have h1 := rankN_lt ns.length ns _ (sorted_range _) h (by simp)
  have h2 := fact_le ns.length hl
  rw [BitVec.toNat_ofNat]
  exact Nat.mod_eq_of_lt (by omega)
theorem fw_toNat (n : Nat) (h : n ≤ 20) : (fw n).toNat = fact n := by
  have := fact_le n h
  unfold fw
  rw [BitVec.toNat_ofNat]
  exact Nat.mod_eq_of_lt (by omega)
end Rnd

/-
  Ranks of permutations: plain lists.
-/
import Derived.Test.YtgbeljgpnhpphaaSame
import Derived.Test.YtgbeljgpnhpphaaShuf
namespace Rnd
def lessN (x : Nat) (r : List Nat) : Nat := r.countP fun y => decide (y < x)
def rankN : List Nat → Nat
  | [] => 0
  | x :: r => lessN x r * fact r.length + rankN r
def castL (ns : List Nat) : List Int := ns.map fun (j : Nat) => (j : Int)
theorem length_castL (ns : List Nat) : (castL ns).length = ns.length := by simp [castL]
theorem castL_getD (ns : List Nat) (i : Nat) : (castL ns).getD i 0 = ((ns.getD i 0 : Nat) : Int) := by
  simp only [castL, List.getD_eq_getElem?_getD, List.getElem?_map]
  cases ns[i]? <;> simp
theorem castL_mem (ns : List Nat) (j : Nat) : (j : Int) ∈ castL ns ↔ j ∈ ns := by
  unfold castL
  rw [List.mem_map]
  constructor
  · rintro ⟨a, ha, he⟩
    have : a = j := by omega
    exact this ▸ ha
  · exact fun h => ⟨j, h, rfl⟩
theorem castL_inj {a b : List Nat} (h : castL a = castL b) : a = b := by
  induction a generalizing b with
  | nil => cases b with
    | nil => rfl
    | cons y b => simp [castL] at h
  | cons x a ih =>
    cases b with
    | nil => simp [castL] at h
    | cons y b =>
      simp only [castL, List.map_cons, List.cons.injEq] at h
      rw [ih h.2, show x = y by omega]
theorem perm_of_sub {α : Type} [BEq α] [LawfulBEq α] : ∀ (a b : List α), a.Nodup → (∀ x ∈ a, x ∈ b) → b.length ≤ a.length → a.Perm b
  | [], b, _, _, h => by
    have : b = [] := List.eq_nil_of_length_eq_zero (by simpa using h)
    rw [this]
  | x :: a, b, hn, hs, h => by
    have hx := hs x List.mem_cons_self
    have hp := List.perm_cons_erase hx
    have hn' := List.nodup_cons.1 hn
    refine (List.Perm.cons x (perm_of_sub a (b.erase x) hn'.2 (fun y hy => ?_) ?_)).trans hp.symm
    · exact (List.mem_erase_of_ne (fun e => hn'.1 (by rw [← e]; exact hy))).2 (hs y (List.mem_cons_of_mem _ hy))
    · have := hp.length_eq
      simp at this h
      omega
/-- A good list is a permutation. -/
theorem good_perm {zs : List Int} (h : ∀ i, i < zs.length → goodAt zs i = true) : ∃ ns, zs = castL ns ∧ ns.Perm (List.range zs.length) := by
  have hr : ∀ i, i < zs.length → 0 ≤ zs.getD i 0 ∧ zs.getD i 0 < (zs.length : Int) ∧ zs.getD i 0 ∉ zs.take i := by
    intro i hi
    have := h i hi
    simp only [goodAt, Bool.and_eq_true, Bool.not_eq_true', decide_eq_true_eq, decide_eq_false_iff_not] at this
    exact ⟨this.1.1, this.1.2, this.2⟩
  have hz : zs = castL (zs.map Int.toNat) := by
    apply List.ext_getElem
    · simp [castL]
    · intro i h1 h2
      have := (hr i h1).1
      simp only [castL, List.getElem_map]
      have e : zs.getD i 0 = zs[i] := by simp [h1]
      rw [e] at this
      omega
  have hlen : (zs.map Int.toNat).length = zs.length := by simp
  refine ⟨zs.map Int.toNat, hz, ?_⟩
  have hnd : (zs.map Int.toNat).Nodup := by
    rw [List.Nodup, List.pairwise_iff_getElem]
    intro i j hi hj hij
    have hj' : j < zs.length := by simpa using hj
    obtain ⟨h1, h2, h3⟩ := hr j hj'
    obtain ⟨h4, _, _⟩ := hr i (by omega)
    have e1 : zs.getD i 0 = zs[i] := by simp [show i < zs.length by omega]
    have e2 : zs.getD j 0 = zs[j] := by simp [hj']
    rw [e2] at h1 h3
    rw [e1] at h4
    intro he
    simp only [List.getElem_map] at he
    apply h3
    have : zs[i] = zs[j] := by omega
    rw [← this, List.mem_take_iff_getElem]
    exact ⟨i, by omega, rfl⟩
  have hsub : ∀ x ∈ zs.map Int.toNat, x ∈ List.range zs.length := by
    intro x hx
    obtain ⟨i, hi, rfl⟩ := List.getElem_of_mem hx
    have hi' : i < zs.length := by simpa using hi
    obtain ⟨h1, h2, _⟩ := hr i hi'
    have e1 : zs.getD i 0 = zs[i] := by simp [hi']
    rw [e1] at h1 h2
    simp only [List.getElem_map, List.mem_range]
    omega
  exact perm_of_sub _ _ hnd hsub (by simp)
/-- Perm back to good. -/
theorem perm_good {ns : List Nat} (h : ns.Perm (List.range ns.length)) (i : Nat) (hi : i < ns.length) : goodAt (castL ns) i = true := by
  have hmem : ns[i] ∈ List.range ns.length := h.subset (List.getElem_mem hi)
  have hnd : ns.Nodup := h.nodup_iff.2 List.nodup_range
  have hd : ns.getD i 0 = ns[i] := by simp [hi]
  rw [goodAt, castL_getD, length_castL, hd]
  rw [List.mem_range] at hmem
  rw [decide_eq_true (by omega), decide_eq_true (by omega), decide_eq_false]
  · rfl
  · rw [castL, ← List.map_take]
    intro hm
    have hm' : ns[i] ∈ ns.take i := by
      have := (castL_mem (ns.take i) ns[i]).1 hm
      exact this
    rw [List.mem_take_iff_getElem] at hm'
    obtain ⟨j, hj, he⟩ := hm'
    have := (List.pairwise_iff_getElem.1 hnd) j i (by omega) hi (by omega)
    exact this he
theorem good_iff (zs : List Int) : permB zs = true ↔ ∃ ns, zs = castL ns ∧ ns.Perm (List.range zs.length) := by
  constructor
  · intro h
    rw [permB, List.all_eq_true] at h
    exact good_perm fun i hi => h i (by simpa using hi)
  · rintro ⟨ns, rfl, hp⟩
    rw [length_castL] at hp
    exact permB_good fun i hi => perm_good hp i (by rwa [length_castL] at hi)
/-! ### The exchanges -/
theorem swapL_perm (l : List Int) (i k : Nat) (hi : i < l.length) (hk : k < l.length) : (swapL l i k).Perm l := by
  have e1 : l.getD k 0 = l[k] := by simp [hk]
  have e2 : l.getD i 0 = l[i] := by simp [hi]
  unfold swapL
  rw [e1, e2]
  exact List.set_set_perm hi hk
theorem shufG_perm (nx : W → W) (pk : W → Nat → Nat) (hpk : ∀ s n, 0 < n → pk s n < n) : ∀ (J : Nat) (l : List Int) (s : W), J ≤ l.length → (shufG nx pk J l s).1.Perm l
  | 0, l, s, _ => by rw [shufG]
  | 1, l, s, _ => by rw [shufG]
  | J + 2, l, s, h => by
    rw [shufG]
    have h1 := hpk s (J + 2) (by omega)
    exact (shufG_perm nx pk hpk (J + 1) _ _ (by rw [length_swapL]; omega)).trans (swapL_perm l _ _ (by omega) (by omega))
theorem pick_lt (s : W) (n : Nat) (h : 0 < n) : pick s n < n := hi_lt _ n h
theorem shuf_perm (J : Nat) (l : List Int) (s : W) (h : J ≤ l.length) : (shuf J l s).1.Perm l := shufG_perm nxt pick pick_lt J l s h
theorem perm_castL {zs : List Int} {n : Nat} (h : zs.Perm (upto n)) : ∃ ns, zs = castL ns ∧ ns.Perm (List.range n) := by
  refine ⟨zs.map Int.toNat, ?_, ?_⟩
  · apply List.ext_getElem
    · simp [castL]
    · intro i h1 h2
      have hm := h.subset (List.getElem_mem h1)
      simp only [upto, List.mem_map, List.mem_range] at hm
      obtain ⟨j, _, hj⟩ := hm
      simp only [castL, List.getElem_map]
      omega
  · have := h.map Int.toNat
    have e : (upto n).map Int.toNat = List.range n := by
      unfold upto
      rw [List.map_map]
      exact List.map_id' _
    rw [e] at this
    exact this
theorem shuf_good (n : Nat) (s : W) : permB (shuf n (upto n) s).1 = true := by
  have hl : (shuf n (upto n) s).1.length = n := by rw [length_shuf, length_upto]
  rw [good_iff, hl]
  exact perm_castL (shuf_perm n (upto n) s (by rw [length_upto]; omega))
end Rnd

/-
  Ranks of increasing lists.
-/
import Derived.Test.YtgbeljgpnhpphaaRankS
import Derived.Test.YtgbeljgpnhpphaaRankLaw
namespace Rnd
/-- Increasing, from lo on, below n. -/
def Inc (n lo : Nat) : List Nat → Prop
  | [] => True
  | x :: r => lo ≤ x ∧ x < n ∧ Inc n (x + 1) r
def sumN (n c lo : Nat) : Nat → Nat
  | 0 => 0
  | m + 1 => sumN n c lo m + binom (n - 1 - (lo + m)) c
theorem sumB_N (n c lo : Nat) : ∀ m, sumB n c lo m = BitVec.ofNat 64 (sumN n c lo m)
  | 0 => rfl
  | m + 1 => by rw [sumB, sumN, sumB_N, BitVec.ofNat_add]; rfl
theorem sumN_stick (n c lo : Nat) : ∀ m, lo + m ≤ n → sumN n c lo m + binom (n - (lo + m)) (c + 1) = binom (n - lo) (c + 1)
  | 0, _ => by rw [sumN, Nat.zero_add, Nat.add_zero]
  | m + 1, h => by
    rw [← sumN_stick n c lo m (by omega), sumN]
    rw [show n - (lo + m) = (n - 1 - (lo + m)) + 1 by omega, binom_succ, show n - (lo + (m + 1)) = n - 1 - (lo + m) by omega]
    omega
theorem sumN_first (n c lo : Nat) : ∀ m, sumN n c lo (m + 1) = binom (n - 1 - lo) c + sumN n c (lo + 1) m
  | 0 => by simp [sumN]
  | m + 1 => by
    rw [sumN, sumN_first n c lo m, sumN, show lo + (m + 1) = lo + 1 + m by omega]
    omega
def rankSN (n lo : Nat) : List Nat → Nat
  | [] => 0
  | x :: r => sumN n r.length lo (x - lo) + rankSN n (x + 1) r
theorem rankSN_lt (n : Nat) : ∀ (ns : List Nat) (lo : Nat), Inc n lo ns → rankSN n lo ns < binom (n - lo) ns.length
  | [], lo, _ => by rw [rankSN, List.length_nil, binom_zero]; omega
  | x :: r, lo, ⟨h1, h2, h3⟩ => by
    have ih := rankSN_lt n r (x + 1) h3
    have hs := sumN_stick n r.length lo (x - lo) (by omega)
    rw [show lo + (x - lo) = x by omega, show n - x = (n - (x + 1)) + 1 by omega, binom_succ] at hs
    rw [rankSN, List.length_cons]
    omega
/-- One more at the front. -/
theorem rankSN_next {n lo y : Nat} {r : List Nat} (h : lo < y) : rankSN n lo (y :: r) = binom (n - 1 - lo) r.length + rankSN n (lo + 1) (y :: r) := by
  rw [rankSN, rankSN, show y - lo = (y - (lo + 1)) + 1 by omega, sumN_first]
  omega
def unrS : Nat → Nat → Nat → Nat → List Nat
  | _, _, 0, _ => []
  | 0, _, _ + 1, _ => []
  | m + 1, x, j + 1, r => if r < binom m j then x :: unrS m (x + 1) j r else unrS m (x + 1) (j + 1) (r - binom m j)
theorem Inc_up {n : Nat} : ∀ {ns : List Nat} {lo hi : Nat}, Inc n hi ns → lo ≤ hi → Inc n lo ns
  | [], _, _, _, _ => trivial
  | x :: r, lo, hi, ⟨h1, h2, h3⟩, h => ⟨by omega, h2, h3⟩
theorem unrS_spec (n : Nat) : ∀ (m x j r : Nat), x + m = n → r < binom m j → Inc n x (unrS m x j r) ∧ (unrS m x j r).length = j ∧ rankSN n x (unrS m x j r) = r
  | m, x, 0, r, _, h => by
    rw [binom_zero] at h
    obtain rfl : r = 0 := by omega
    rw [unrS]
    exact ⟨trivial, rfl, rfl⟩
  | 0, x, j + 1, r, _, h => by simp [binom] at h
  | m + 1, x, j + 1, r, hx, h => by
    rw [binom_succ] at h
    rw [unrS]
    by_cases hr : r < binom m j
    · rw [if_pos hr]
      obtain ⟨h1, h2, h3⟩ := unrS_spec n m (x + 1) j r (by omega) hr
      refine ⟨⟨Nat.le_refl _, by omega, h1⟩, by rw [List.length_cons, h2], ?_⟩
      rw [rankSN, Nat.sub_self, sumN, h3, Nat.zero_add]
    · rw [if_neg hr]
      obtain ⟨h1, h2, h3⟩ := unrS_spec n m (x + 1) (j + 1) (r - binom m j) (by omega) (by omega)
      refine ⟨Inc_up h1 (by omega), h2, ?_⟩
      cases hL : unrS m (x + 1) (j + 1) (r - binom m j) with
      | nil => rw [hL] at h2; simp at h2
      | cons y L =>
        rw [hL] at h1 h2 h3
        have hy : x + 1 ≤ y := h1.1
        rw [rankSN_next (by omega), h3, show L.length = j by simpa using h2, show n - 1 - x = m by omega]
        omega
theorem unrS_rank (n : Nat) : ∀ (m x : Nat) (ns : List Nat), x + m = n → Inc n x ns → unrS m x ns.length (rankSN n x ns) = ns
  | _, _, [], _, _ => by rw [List.length_nil, unrS]
  | 0, x, y :: r, hx, ⟨h1, h2, _⟩ => by omega
  | m + 1, x, y :: r, hx, hi => by
    obtain ⟨h1, h2, h3⟩ := hi
    rw [List.length_cons, unrS]
    by_cases hy : y = x
    · subst hy
      have hlt := rankSN_lt n r (y + 1) h3
      rw [show n - (y + 1) = m by omega] at hlt
      rw [rankSN, Nat.sub_self, sumN, Nat.zero_add, if_pos hlt, unrS_rank n m (y + 1) r (by omega) h3]
    · have hxy : x < y := by omega
      rw [rankSN_next hxy, show n - 1 - x = m by omega, if_neg (by omega), Nat.add_sub_cancel_left]
      exact unrS_rank n m (x + 1) (y :: r) (by omega) ⟨by omega, h2, h3⟩
theorem sumN_mono (n c lo : Nat) {a b : Nat} (h : a ≤ b) : sumN n c lo a ≤ sumN n c lo b := by
  obtain ⟨d, rfl⟩ : ∃ d, b = a + d := ⟨b - a, by omega⟩
  clear h
  induction d with
  | zero => exact Nat.le_refl _
  | succ d ih => exact Nat.le_trans ih (by rw [← Nat.add_assoc, sumN]; omega)
theorem less_rankS (n : Nat) : ∀ (ns ms : List Nat) (lo : Nat), Inc n lo ns → Inc n lo ms → ns.length = ms.length → lessL (castL ns) (castL ms) = decide (rankSN n lo ns < rankSN n lo ms)
  | [], [], lo, _, _, _ => by simp [castL, lessL, rankSN]
  | [], _ :: _, _, _, _, h => by simp at h
  | _ :: _, [], _, _, _, h => by simp at h
  | x :: r, y :: s, lo, ⟨a1, a2, a3⟩, ⟨b1, b2, b3⟩, h => by
    have hl : r.length = s.length := by simpa using h
    show (if ((x : Nat) : Int) = ((y : Nat) : Int) then lessL (castL r) (castL s) else decide (((x : Nat) : Int) < ((y : Nat) : Int))) = _
    rw [rankSN, rankSN, ← hl]
    have key : ∀ {u v : Nat} {p : List Nat}, lo ≤ u → u < v → u < n → Inc n (u + 1) p → p.length = r.length → sumN n r.length lo (u - lo) + rankSN n (u + 1) p < sumN n r.length lo (v - lo) := by
      intro u v p hu huv hun hp hpl
      have h1 := rankSN_lt n p (u + 1) hp
      have h2 := sumN_mono n r.length lo (show u - lo + 1 ≤ v - lo by omega)
      rw [sumN, show n - 1 - (lo + (u - lo)) = n - (u + 1) by omega] at h2
      rw [hpl] at h1
      omega
    rcases Nat.lt_trichotomy x y with hxy | hxy | hxy
    · have := key a1 hxy a2 a3 rfl
      rw [if_neg (by omega), decide_eq_true (by omega), decide_eq_true (by omega)]
    · subst hxy
      rw [if_pos rfl, less_rankS n r s (x + 1) a3 b3 hl]
      rw [Bool.eq_iff_iff]; simp
    · have := key b1 hxy b2 b3 hl.symm
      rw [if_neg (by omega), decide_eq_false (by omega), decide_eq_false (by omega)]
/-! ### The program's list -/
theorem goodS_split {n : Int} {zs : List Int} : goodS n zs = true ↔ 0 ≤ n ∧ n ≤ 60 ∧ ∀ i, i < zs.length → fromAt zs i ≤ zs.getD i 0 ∧ zs.getD i 0 < n := by
  unfold goodS
  rw [Bool.and_eq_true, Bool.and_eq_true, decide_eq_true_eq, decide_eq_true_eq, List.all_eq_true]
  constructor
  · rintro ⟨⟨h1, h2⟩, h3⟩
    refine ⟨h1, h2, fun i hi => ?_⟩
    have := h3 i (by simpa using hi)
    unfold goodAtS at this
    simpa using this
  · rintro ⟨h1, h2, h3⟩
    refine ⟨⟨h1, h2⟩, fun i hi => ?_⟩
    have := h3 i (by simpa using hi)
    unfold goodAtS
    simpa using this
/-- The same, with whatever least number for the first. -/
def fromL (f : Int) (zs : List Int) (i : Nat) : Int := if i = 0 then f else zs.getD (i - 1) 0 + 1
theorem inc_of_good (n : Nat) : ∀ (zs : List Int) (lo : Nat), (∀ i, i < zs.length → fromL lo zs i ≤ zs.getD i 0 ∧ zs.getD i 0 < (n : Int)) → ∃ ns, zs = castL ns ∧ Inc n lo ns
  | [], _, _ => ⟨[], rfl, trivial⟩
  | z :: r, lo, h => by
    have h0 := h 0 (by simp)
    simp only [fromL, List.getD_cons_zero, if_true] at h0
    obtain ⟨ns, h1, h2⟩ := inc_of_good n r (z.toNat + 1) (fun i hi => by
      have := h (i + 1) (by simpa using hi)
      unfold fromL at this ⊢
      rw [if_neg (by omega), List.getD_cons_succ] at this
      by_cases hi0 : i = 0
      · subst hi0
        rw [if_pos rfl]
        simp only [Nat.zero_add, Nat.sub_self, List.getD_cons_zero] at this
        omega
      · rw [if_neg hi0]
        obtain ⟨k, rfl⟩ : ∃ k, i = k + 1 := ⟨i - 1, by omega⟩
        simpa using this)
    refine ⟨z.toNat :: ns, ?_, by omega, by omega, h2⟩
    rw [h1]
    simp [castL]
    omega
theorem good_of_inc (n : Nat) : ∀ (ns : List Nat) (lo : Nat), Inc n lo ns → ∀ i, i < ns.length → fromL lo (castL ns) i ≤ (castL ns).getD i 0 ∧ (castL ns).getD i 0 < (n : Int)
  | x :: r, lo, ⟨h1, h2, h3⟩, 0, _ => by simp [fromL, castL]; omega
  | x :: r, lo, ⟨h1, h2, h3⟩, i + 1, hi => by
    have := good_of_inc n r (x + 1) h3 i (by simpa using hi)
    unfold fromL at this ⊢
    rw [if_neg (by omega)]
    by_cases hi0 : i = 0
    · subst hi0
      rw [if_pos rfl] at this
      simp only [castL, List.map_cons, Nat.zero_add, Nat.sub_self, List.getD_cons_zero, List.getD_cons_succ] at this ⊢
      omega
    · rw [if_neg hi0] at this
      obtain ⟨k, rfl⟩ : ∃ k, i = k + 1 := ⟨i - 1, by omega⟩
      simpa [castL] using this
theorem good_inc {n : Nat} {zs : List Int} (hn : n ≤ 60) : goodS n zs = true ↔ ∃ ns, zs = castL ns ∧ Inc n 0 ns := by
  rw [goodS_split]
  constructor
  · rintro ⟨_, _, h⟩
    exact inc_of_good n zs 0 h
  · rintro ⟨ns, rfl, h⟩
    refine ⟨by omega, by omega, fun i hi => ?_⟩
    rw [length_castL] at hi
    exact good_of_inc n ns 0 h i hi
theorem acc_rankS (n : Nat) (ns : List Nat) (h : Inc n 0 ns) : ∀ i, i ≤ ns.length → Inc n (fromAt (castL ns) i).toNat (ns.drop i) ∧ accS n (castL ns) i + BitVec.ofNat 64 (rankSN n (fromAt (castL ns) i).toNat (ns.drop i)) = BitVec.ofNat 64 (rankSN n 0 ns)
  | 0, _ => by
    refine ⟨h, ?_⟩
    show 0#64 + BitVec.ofNat 64 (rankSN n 0 ns) = _
    rw [BitVec.zero_add]
  | i + 1, hi => by
    have hil : i < ns.length := by omega
    obtain ⟨h1, h2⟩ := acc_rankS n ns h i (by omega)
    rw [List.drop_eq_getElem_cons hil] at h1 h2
    have hg : (castL ns).getD i 0 = (ns[i] : Int) := by rw [castL_getD]; simp [hil]
    have hf : (fromAt (castL ns) (i + 1)).toNat = ns[i] + 1 := by
      show ((castL ns).getD i 0 + 1).toNat = _
      rw [hg]; omega
    obtain ⟨a1, a2, a3⟩ := h1
    refine ⟨by rw [hf]; exact a3, ?_⟩
    rw [← h2, hf, accS, rankSN, hg, Int.toNat_natCast, sumB_N, length_castL, List.length_drop, BitVec.ofNat_add, show ns.length - 1 - i = ns.length - (i + 1) by omega, BitVec.add_assoc]
theorem rankS_castL {n : Nat} {ns : List Nat} (hn : n ≤ 60) (h : Inc n 0 ns) : rankS n (castL ns) = some (BitVec.ofNat 64 (rankSN n 0 ns)) := by
  unfold rankS
  rw [if_pos ((good_inc hn).2 ⟨ns, rfl, h⟩), Int.toNat_natCast, length_castL]
  have := (acc_rankS n ns h ns.length (Nat.le_refl _)).2
  rw [List.drop_of_length_le (Nat.le_refl _)] at this
  rw [← this]
  simp [rankSN]
theorem rankS_some {n : Int} {zs : List Int} {x : BitVec 64} (h : rankS n zs = some x) : ∃ (N : Nat) (ns : List Nat), n = (N : Int) ∧ N ≤ 60 ∧ zs = castL ns ∧ Inc N 0 ns ∧ x = BitVec.ofNat 64 (rankSN N 0 ns) := by
  have hg : goodS n zs = true := by
    unfold rankS at h
    split at h
    · assumption
    · cases h
  obtain ⟨h0, h1, _⟩ := goodS_split.1 hg
  obtain ⟨N, rfl⟩ : ∃ N : Nat, n = (N : Int) := ⟨n.toNat, by omega⟩
  have hN : N ≤ 60 := by omega
  obtain ⟨ns, rfl, hi⟩ := (good_inc hN).1 hg
  rw [rankS_castL hN hi] at h
  exact ⟨N, ns, rfl, hN, rfl, hi, (Option.some.inj h).symm⟩
theorem rankS_toNat {n : Nat} {ns : List Nat} (hn : n ≤ 60) (h : Inc n 0 ns) : (BitVec.ofNat 64 (rankSN n 0 ns)).toNat = rankSN n 0 ns := by
  have h1 := rankSN_lt n ns 0 h
  have h2 := binom_le (n - 0) ns.length (by omega)
  rw [BitVec.toNat_ofNat]
  exact Nat.mod_eq_of_lt (by omega)
theorem inc_length {n : Nat} : ∀ {ns : List Nat} {lo : Nat}, Inc n lo ns → ns.length ≤ n - lo
  | [], _, _ => by simp
  | x :: r, lo, ⟨h1, h2, h3⟩ => by
    have := inc_length h3
    simp
    omega
theorem inc_i64 {n : Nat} (hn : n ≤ 60) : ∀ {ns : List Nat} {lo : Nat}, Inc n lo ns → Go.Pl.I64s (castL ns)
  | [], _, _ => fun z hz => absurd hz (by simp [castL])
  | x :: r, lo, ⟨h1, h2, h3⟩ => fun z hz => by
    rw [castL, List.map_cons, List.mem_cons] at hz
    rcases hz with rfl | hz
    · omega
    · exact inc_i64 hn h3 z hz
end Rnd

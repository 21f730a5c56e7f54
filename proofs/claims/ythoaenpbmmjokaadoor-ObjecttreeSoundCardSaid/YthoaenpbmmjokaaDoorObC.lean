/-
  Completeness: a proof of a map leads to its root and states what the map holds.
-/
import Derived.Test.YthoaenpbmmjokaaDoorObF
namespace Ob
open Go.Op
theorem bitN_cases (k : Key) (t : Nat) : bitN k t = 0 ∨ bitN k t = 1 := by have := bitN_le k t; omega
theorem splitN_unique {a b : Key} (h : a ≠ b) {s : Nat} (hs : IsSplit a b s) : splitN a b = s := (split_spec h).1.unique hs
/-- A key between two others has their common bits. -/
theorem between {a b c : Key} (hab : bytesLess a b = true) (hbc : bytesLess b c = true) {j : Nat} (hj : j < splitN a c) : bitN b j = bitN a j := by
  have hac := less_trans hab hbc
  have sab := (split_spec (ne_of_less hab)).1
  have sac := (split_spec (ne_of_less hac)).1
  rcases Nat.lt_or_ge j (splitN a b) with h | h
  · exact (sab.1 j h).symm
  · exfalso
    have hs : splitN a b < splitN a c := by omega
    have h1 := less_bits hab
    have hc : bitN c (splitN a b) = 0 := by rw [← sac.1 _ hs]; exact h1.1
    have hbs : IsSplit b c (splitN a b) := ⟨fun i hi => by rw [← sab.1 i hi]; exact sac.1 i (by omega), by rw [h1.2, hc]; decide⟩
    have h2 := less_bits hbc
    rw [splitN_unique (ne_of_less hbc) hbs, h1.2] at h2
    exact absurd h2.1 (by decide)
theorem asc_lt {xs : List It} (h : Asc xs) {i j : Nat} {x y : It} (hx : xs[i]? = some x) (hy : xs[j]? = some y) (hij : i < j) : bytesLess x.key y.key = true := by
  obtain ⟨h1, e1⟩ := List.getElem?_eq_some_iff.1 hx
  obtain ⟨h2, e2⟩ := List.getElem?_eq_some_iff.1 hy
  have := List.pairwise_iff_getElem.1 h i j h1 h2 hij
  rwa [e1, e2] at this
/-- Below the top bit all keys have the same bits. -/
theorem below_top {xs : List It} (h : Asc xs) {x y : It} (h0 : xs[0]? = some x) (h1 : xs[xs.length - 1]? = some y) {i : Nat} {z : It} (hz : xs[i]? = some z) {j : Nat} (hj : j < splitN x.key y.key) : bitN z.key j = bitN x.key j := by
  have hi := (List.getElem?_eq_some_iff.1 hz).1
  by_cases hi0 : i = 0
  · subst hi0
    rw [h0] at hz
    cases hz
    rfl
  · by_cases hil : i = xs.length - 1
    · subst hil
      rw [h1] at hz
      cases hz
      have hne := ne_of_less (asc_lt h h0 h1 (by omega))
      exact ((split_spec hne).1.1 j hj).symm
    · exact between (asc_lt h h0 hz (by omega)) (asc_lt h hz h1 (by omega)) hj
/-- The items of the right part have the bit 1. -/
theorem right_one {xs : List It} (h : Asc xs) {x y : It} {t : Nat} (h0 : xs[0]? = some x) (h1 : xs[xs.length - 1]? = some y) (ht : t = splitN x.key y.key) {i : Nat} {z : It} (hz : xs[i]? = some z) (hi : zeros t xs ≤ i) : bitN z.key t = 1 := by
  have hil := (List.getElem?_eq_some_iff.1 hz).1
  obtain ⟨d, hd⟩ : ∃ d, xs[zeros t xs]? = some d := ⟨_, List.getElem?_eq_getElem (by omega)⟩
  have hd1 := zeros_at hd
  rw [bit_nat] at hd1
  rcases Nat.lt_or_ge (zeros t xs) i with hlt | hge
  · rcases bitN_cases z.key t with hb | hb
    · exfalso
      have hl := asc_lt h hd hz hlt
      have hs : IsSplit d.key z.key t := ⟨fun j hj => by rw [below_top h h0 h1 hd (by omega), below_top h h0 h1 hz (by omega)], by rw [hd1, hb]; decide⟩
      have := less_bits hl
      rw [splitN_unique (ne_of_less hl) hs, hd1] at this
      exact absurd this.1 (by decide)
    · exact hb
  · have : i = zeros t xs := by omega
    subst this
    rw [hd] at hz
    cases hz
    exact hd1
theorem left_zero {xs : List It} {t : Nat} {i : Nat} {z : It} (hz : xs[i]? = some z) (hi : i < zeros t xs) : bitN z.key t = 0 := by
  obtain ⟨z', h1, h2⟩ := zeros_lt hi
  rw [hz] at h1
  cases h1
  rwa [bit_nat] at h2
/-- Where the top bit of a list lies; a great number for one item. -/
def topOr (xs : List It) : Nat := if 2 ≤ xs.length then (top xs).toNat else 4294967296
theorem top_grows {ys : List It} (h : Asc ys) {t : Nat} {b : Nat} (hb : ∀ (i : Nat) (z : It), ys[i]? = some z → bitN z.key t = b) (hsame : ∀ (i j : Nat) (z z' : It), ys[i]? = some z → ys[j]? = some z' → ∀ q, q < t → bitN z.key q = bitN z'.key q) (ht : t < 4294967296) : t < topOr ys := by
  unfold topOr
  split
  · rename_i h2
    obtain ⟨x, y, t', h0, h1, hl, ht', htop, _, _⟩ := h.parts h2
    rw [htop, Int.toNat_natCast, ht']
    have hs := (split_spec (ne_of_less hl)).1
    rcases Nat.lt_or_ge t (splitN x.key y.key) with hlt | hge
    · exact hlt
    · exfalso
      rcases Nat.lt_or_ge (splitN x.key y.key) t with h3 | h3
      · exact hs.2 (hsame _ _ _ _ h0 h1 _ h3)
      · have : splitN x.key y.key = t := by omega
        rw [this] at hs
        exact hs.2 (by rw [hb _ _ h0, hb _ _ h1])
  · exact ht
theorem val4_num (t : Nat) (ht : t < 4294967296) (l : List UInt8) : val4 (num t ++ l) = t := by
  have e0 : ((num t ++ l).getD 0 0).toNat = t / 16777216 % 256 := by
    simp only [num, List.cons_append, List.getD_cons_zero]
    rw [UInt8.toNat_ofNat']
  have e1 : ((num t ++ l).getD 1 0).toNat = t / 65536 % 256 := by
    simp only [num, List.cons_append, List.getD_cons_succ, List.getD_cons_zero]
    rw [UInt8.toNat_ofNat']
  have e2 : ((num t ++ l).getD 2 0).toNat = t / 256 % 256 := by
    simp only [num, List.cons_append, List.getD_cons_succ, List.getD_cons_zero]
    rw [UInt8.toNat_ofNat']
  have e3 : ((num t ++ l).getD 3 0).toNat = t % 256 := by
    simp only [num, List.cons_append, List.getD_cons_succ, List.getD_cons_zero]
    rw [UInt8.toNat_ofNat']
  unfold val4
  rw [e0, e1, e2, e3]
  omega
theorem follow_le (key : Key) : ∀ (m : Nat) (xs : List It), xs.length ≤ m → Asc xs → (follow key xs).2.length ≤ 1 ∧ ∀ x ∈ (follow key xs).2, x ∈ xs := by
  intro m
  induction m with
  | zero =>
    intro xs h _
    rw [follow_small (by omega)]
    exact ⟨by simpa using (by omega : xs.length ≤ 1), fun x h => h⟩
  | succ m ih =>
    intro xs h ha
    by_cases h2 : 2 ≤ xs.length
    · obtain ⟨x, y, t, _, _, _, _, ht, h0, h1⟩ := ha.parts h2
      by_cases hb : bitN key t = 1
      · rw [follow_one h2 ht h0 h1 hb]
        obtain ⟨i1, i2⟩ := ih (xs.drop (zeros t xs)) (by rw [List.length_drop]; omega) (ha.drop _)
        exact ⟨i1, fun x hx => List.mem_of_mem_drop (i2 x hx)⟩
      · rw [follow_zero h2 ht h0 h1 hb]
        obtain ⟨i1, i2⟩ := ih (xs.take (zeros t xs)) (by rw [List.length_take]; omega) (ha.take _)
        exact ⟨i1, fun x hx => List.mem_of_mem_take (i2 x hx)⟩
    · rw [follow_small (by omega)]
      exact ⟨by simpa using (by omega : xs.length ≤ 1), fun x h => h⟩
theorem follow_some (key : Key) : ∀ (m : Nat) (xs : List It), xs.length ≤ m → Asc xs → (follow key xs).2 = [] → xs = [] := by
  intro m
  induction m with
  | zero => intro xs h _ _; exact List.eq_nil_of_length_eq_zero (by omega)
  | succ m ih =>
    intro xs h ha hf
    by_cases h2 : 2 ≤ xs.length
    · exfalso
      obtain ⟨x, y, t, _, _, _, _, ht, h0, h1⟩ := ha.parts h2
      by_cases hb : bitN key t = 1
      · rw [follow_one h2 ht h0 h1 hb] at hf
        have := ih (xs.drop (zeros t xs)) (by rw [List.length_drop]; omega) (ha.drop _) hf
        have := congrArg List.length this
        rw [List.length_drop, List.length_nil] at this
        omega
      · rw [follow_zero h2 ht h0 h1 hb] at hf
        have := ih (xs.take (zeros t xs)) (by rw [List.length_take]; omega) (ha.take _) hf
        have := congrArg List.length this
        rw [List.length_take, List.length_nil] at this
        omega
    · rw [follow_small (by omega)] at hf
      exact hf
/-- A key of the map is found. -/
theorem follow_hit (key : Key) : ∀ (m : Nat) (xs : List It), xs.length ≤ m → Asc xs → ∀ y ∈ xs, y.key = key → (follow key xs).2 = [y] := by
  intro m
  induction m with
  | zero =>
    intro xs h _ y hy
    have : xs = [] := List.eq_nil_of_length_eq_zero (by omega)
    rw [this] at hy
    cases hy
  | succ m ih =>
    intro xs h ha y hy hk
    by_cases h2 : 2 ≤ xs.length
    · obtain ⟨x, z, t, q0, q1, _, htt, ht, h0, h1⟩ := ha.parts h2
      obtain ⟨i, hi⟩ := List.getElem?_of_mem hy
      by_cases hb : bitN key t = 1
      · rw [follow_one h2 ht h0 h1 hb]
        refine ih (xs.drop (zeros t xs)) (by rw [List.length_drop]; omega) (ha.drop _) y ?_ hk
        have hz : zeros t xs ≤ i := Nat.le_of_not_lt fun hlt => by
          have := left_zero hi hlt
          rw [hk, hb] at this
          cases this
        refine List.mem_of_getElem? (i := i - zeros t xs) ?_
        rw [List.getElem?_drop, show zeros t xs + (i - zeros t xs) = i by omega]
        exact hi
      · rw [follow_zero h2 ht h0 h1 hb]
        refine ih (xs.take (zeros t xs)) (by rw [List.length_take]; omega) (ha.take _) y ?_ hk
        have hz : i < zeros t xs := Nat.lt_of_not_le fun hge => by
          have := right_one ha q0 q1 htt hi hge
          rw [hk] at this
          exact hb this
        refine List.mem_of_getElem? (i := i) ?_
        rw [List.getElem?_take, if_pos hz]
        exact hi
    · rw [follow_small (by omega)]
      match xs, hy with
      | [a], hy => rw [List.mem_singleton.1 hy]
      | a :: b :: r, _ => simp at h2
/-- The steps of a proof lead from the leaf to the root. -/
theorem climb_follow (key : Key) : ∀ (m : Nat) (xs : List It), xs.length ≤ m → Asc xs → (∀ x ∈ xs, x.key.length ≤ 100000) → ∀ x, (follow key xs).2 = [x] → ∀ (l : List (List UInt8)) (tk : List (List UInt8)),
    ∃ tk', climb key ((follow key xs).1.reverse ++ l) 4294967296 (leafH x.key x.content) tk = climb key l (topOr xs) (rootH xs) tk' := by
  intro m
  induction m with
  | zero =>
    intro xs h _ _ x hx
    have : xs = [] := List.eq_nil_of_length_eq_zero (by omega)
    rw [this, follow_small (by simp)] at hx
    cases hx
  | succ m ih =>
    intro xs h ha hk x hx l tk
    by_cases h2 : 2 ≤ xs.length
    · obtain ⟨a, z, t, q0, q1, hl, htt, ht, h0, h1⟩ := ha.parts h2
      have htb : t < 4294967296 := by
        have := split_lt (ne_of_less hl)
        have := hk a (List.mem_of_getElem? q0)
        omega
      have hto : topOr xs = t := by unfold topOr; rw [if_pos h2, ht, Int.toNat_natCast]
      by_cases hb : bitN key t = 1
      · rw [follow_one h2 ht h0 h1 hb] at hx ⊢
        have had := ha.drop (zeros t xs)
        obtain ⟨tk1, e1⟩ := ih (xs.drop (zeros t xs)) (by rw [List.length_drop]; omega) had (fun x hx => hk x (List.mem_of_mem_drop hx)) x hx ((num t ++ rootH (xs.take (zeros t xs))) :: l) tk
        refine ⟨tk1 ++ [nodeB t (rootH (xs.take (zeros t xs))) (rootH (xs.drop (zeros t xs)))], ?_⟩
        simp only [List.reverse_cons, List.append_assoc, List.singleton_append]
        rw [e1]
        have hv := val4_num t htb (rootH (xs.take (zeros t xs)))
        have hlen : (num t ++ rootH (xs.take (zeros t xs))).length = 36 := by rw [List.length_append, rootH_len (ha.take _)]; rfl
        have hgr : t < topOr (xs.drop (zeros t xs)) := top_grows had (b := 1) (fun i z hz => right_one ha q0 q1 htt (i := zeros t xs + i) (by rw [List.getElem?_drop] at hz; exact hz) (by omega))
          (fun i j z z' hz hz' q hq => by
            rw [List.getElem?_drop] at hz hz'
            rw [below_top ha q0 q1 hz (by omega), below_top ha q0 q1 hz' (by omega)]) htb
        have hsb : stepB key (num t ++ rootH (xs.take (zeros t xs))) (rootH (xs.drop (zeros t xs))) = nodeB t (rootH (xs.take (zeros t xs))) (rootH (xs.drop (zeros t xs))) := by
          unfold stepB
          rw [hv, if_neg (by omega)]
          congr 1
        rw [climb, hv, if_pos ⟨hlen, hgr⟩, hsb, hto, rootH_two h2 ht h0 h1]
      · rw [follow_zero h2 ht h0 h1 hb] at hx ⊢
        have hb0 : bitN key t = 0 := by have := bitN_le key t; omega
        have had := ha.take (zeros t xs)
        obtain ⟨tk1, e1⟩ := ih (xs.take (zeros t xs)) (by rw [List.length_take]; omega) had (fun x hx => hk x (List.mem_of_mem_take hx)) x hx ((num t ++ rootH (xs.drop (zeros t xs))) :: l) tk
        refine ⟨tk1 ++ [nodeB t (rootH (xs.take (zeros t xs))) (rootH (xs.drop (zeros t xs)))], ?_⟩
        simp only [List.reverse_cons, List.append_assoc, List.singleton_append]
        rw [e1]
        have hv := val4_num t htb (rootH (xs.drop (zeros t xs)))
        have hlen : (num t ++ rootH (xs.drop (zeros t xs))).length = 36 := by rw [List.length_append, rootH_len (ha.drop _)]; rfl
        have hin : ∀ {i : Nat} {z : It}, (xs.take (zeros t xs))[i]? = some z → xs[i]? = some z ∧ i < zeros t xs := fun {i z} hz => by
          rw [List.getElem?_take] at hz
          split at hz
          · exact ⟨hz, by assumption⟩
          · cases hz
        have hgr : t < topOr (xs.take (zeros t xs)) := top_grows had (b := 0) (fun i z hz => left_zero (hin hz).1 (hin hz).2)
          (fun i j z z' hz hz' q hq => by rw [below_top ha q0 q1 (hin hz).1 (by omega), below_top ha q0 q1 (hin hz').1 (by omega)]) htb
        have hsb : stepB key (num t ++ rootH (xs.drop (zeros t xs))) (rootH (xs.take (zeros t xs))) = nodeB t (rootH (xs.take (zeros t xs))) (rootH (xs.drop (zeros t xs))) := by
          unfold stepB
          rw [hv, if_pos hb0]
          congr 1
        rw [climb, hv, if_pos ⟨hlen, hgr⟩, hsb, hto, rootH_two h2 ht h0 h1]
    · rw [follow_small (by omega)] at hx ⊢
      have hx' : xs = [x] := hx
      subst hx'
      exact ⟨tk, by rw [rootH_one]; rfl⟩
/-- Whether an item states correctly what a map holds. -/
def truthP (xs : List It) (x : It) : Bool :=
  match xs.find? (fun y => y.key == x.key) with
  | some y => x.present && (y.content == x.content)
  | none => !x.present
theorem find_at {xs : List It} {p : It → Bool} {i : Nat} {y : It} (hy : xs[i]? = some y) (hp : p y = true) (hn : ∀ (j : Nat) (z : It), j < i → xs[j]? = some z → p z = false) : xs.find? p = some y := by
  obtain ⟨hi, e⟩ := List.getElem?_eq_some_iff.1 hy
  refine List.find?_eq_some_iff_getElem.2 ⟨hp, i, hi, e, fun j hj => ?_⟩
  rw [hn j _ hj (List.getElem?_eq_getElem (by omega))]
  rfl
theorem complete {key : Key} {xs : List It} (ha : Asc xs) (hk : ∀ x ∈ xs, x.key.length ≤ 65536) (hkey : key.length ≤ 65536) :
    (proveI key xs).key = key ∧ checkP (rootH xs) (proveI key xs) = true ∧ truthP xs (proveI key xs) = true := by
  obtain ⟨hl, hm⟩ := follow_le key xs.length xs (Nat.le_refl _) ha
  have hit := follow_hit key xs.length xs (Nat.le_refl _) ha
  cases hf : (follow key xs).2 with
  | nil =>
    have hxs : xs = [] := follow_some key xs.length xs (Nat.le_refl _) ha hf
    subst hxs
    have hp : proveI key [] = ⟨key, false, [], []⟩ := by unfold proveI; rw [follow_small (by simp)]
    rw [hp]
    refine ⟨rfl, ?_, rfl⟩
    unfold checkP followP startP
    rw [if_pos hkey, if_neg (by simp), if_pos rfl]
    simp [climb, rootH_nil]
  | cons x r =>
    have hr : r = [] := by rw [hf] at hl; simp at hl; exact hl
    subst hr
    have hxm : x ∈ xs := hm x (by rw [hf]; simp)
    obtain ⟨tk, hc⟩ := climb_follow key xs.length xs (Nat.le_refl _) ha (fun x hx => by have := hk x hx; omega) x hf [] [x.content, leafB x.key (Sha.sha x.content)]
    obtain ⟨tk2, hc2⟩ := climb_follow key xs.length xs (Nat.le_refl _) ha (fun x hx => by have := hk x hx; omega) x hf [] [leafB x.key (Sha.sha x.content)]
    rw [List.append_nil] at hc hc2
    by_cases hkx : x.key = key
    · have hp : proveI key xs = ⟨key, true, x.content, (follow key xs).1⟩ := by unfold proveI; rw [hf]; exact if_pos hkx
      rw [hp]
      refine ⟨rfl, ?_, ?_⟩
      · unfold checkP followP startP
        rw [if_pos hkey, if_pos rfl]
        simp only
        rw [hkx] at hc
        rw [hc]
        simp [climb]
      · unfold truthP
        cases hfi : xs.find? (fun y => y.key == key) with
        | none =>
          have := List.find?_eq_none.1 hfi x hxm
          simp [hkx] at this
        | some y =>
          have hy := List.mem_of_find?_eq_some hfi
          have hyk : y.key = key := by have := List.find?_some hfi; simpa using this
          have := hit y hy hyk
          rw [hf] at this
          cases this
          simp
    · have hp : proveI key xs = ⟨key, false, [], (follow key xs).1 ++ [x.key ++ Sha.sha x.content]⟩ := by unfold proveI; rw [hf]; exact if_neg hkx
      rw [hp]
      refine ⟨rfl, ?_, ?_⟩
      · unfold checkP followP startP
        have hlen : (x.key ++ Sha.sha x.content).length = x.key.length + 32 := by rw [List.length_append, Sha.length_sha]
        have ht : (x.key ++ Sha.sha x.content).take (x.key.length + 32 - 32) = x.key := by rw [Nat.add_sub_cancel, List.take_left]
        have hd : (x.key ++ Sha.sha x.content).drop (x.key.length + 32 - 32) = Sha.sha x.content := by rw [Nat.add_sub_cancel, List.drop_left]
        have hkl := hk x hxm
        rw [if_pos hkey, if_neg (by simp), if_pos rfl, List.getLast?_append]
        simp only [List.getLast?_singleton, Option.some_or, hlen, ht, hd, List.dropLast_concat]
        rw [if_pos ⟨by omega, by omega, hkx⟩]
        simp only
        have e : leafH x.key x.content = Sha.sha (leafB x.key (Sha.sha x.content)) := rfl
        rw [e] at hc2
        rw [hc2]
        simp [climb]
      · unfold truthP
        cases hfi : xs.find? (fun y => y.key == key) with
        | none => rfl
        | some y =>
          exfalso
          have hy := List.mem_of_find?_eq_some hfi
          have hyk : y.key = key := by have := List.find?_some hfi; simpa using this
          have := hit y hy hyk
          rw [hf] at this
          cases this
          exact hkx hyk
end Ob

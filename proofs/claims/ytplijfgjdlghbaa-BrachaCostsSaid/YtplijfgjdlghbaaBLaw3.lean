/-
  What two quorums share; what one process knows of one broadcast; what a group knows of it.
-/
import Derived.Test.YtplijfgjdlghbaaBLaw1
namespace Bra
/-- How many numbers below n have a property. -/
def cnt (p : Nat → Bool) : Nat → Nat
  | 0 => 0
  | n + 1 => cnt p n + (if p n then 1 else 0)
theorem cnt_succ (p : Nat → Bool) (n : Nat) : cnt p (n + 1) = cnt p n + (if p n then 1 else 0) := rfl
theorem cnt_mono {p q : Nat → Bool} : ∀ {n : Nat}, (∀ i, i < n → p i = true → q i = true) → cnt p n ≤ cnt q n
  | 0, _ => Nat.le_refl _
  | n + 1, h => by
    have h1 := cnt_mono (n := n) (p := p) (q := q) (fun i hi => h i (by omega))
    have h2 := h n (by omega)
    simp only [cnt_succ]
    by_cases hp : p n = true
    · rw [if_pos hp, if_pos (h2 hp)]; omega
    · rw [if_neg hp]; omega
theorem cnt_two {p q b : Nat → Bool} : ∀ {n : Nat}, (∀ i, i < n → p i = true → q i = true → b i = true) → cnt p n + cnt q n ≤ n + cnt b n
  | 0, _ => Nat.le_refl _
  | n + 1, h => by
    have h1 := cnt_two (n := n) (p := p) (q := q) (b := b) (fun i hi => h i (by omega))
    have h2 := h n (by omega)
    simp only [cnt_succ]
    by_cases hp : p n = true <;> by_cases hq : q n = true
    · rw [if_pos hp, if_pos hq, if_pos (h2 hp hq)]; omega
    · rw [if_pos hp, if_neg hq]; split <;> omega
    · rw [if_neg hp, if_pos hq]; split <;> omega
    · rw [if_neg hp, if_neg hq]; split <;> omega
theorem cnt_or (p q : Nat → Bool) : ∀ n : Nat, cnt (fun i => p i || q i) n ≤ cnt p n + cnt q n
  | 0 => Nat.le_refl _
  | n + 1 => by
    have h1 := cnt_or p q n
    simp only [cnt_succ]
    cases p n <;> cases q n <;> simp <;> omega
theorem cnt_no (n : Nat) : cnt (fun _ => false) n = 0 := by
  induction n with
  | zero => rfl
  | succ n ih => rw [cnt_succ, ih]; rfl
theorem cnt_one (i : Int) : ∀ n : Nat, cnt (fun j => i == (j : Int)) n = if 0 ≤ i ∧ i < n then 1 else 0
  | 0 => by rw [if_neg (by omega)]; rfl
  | n + 1 => by
    rw [cnt_succ, cnt_one i n]
    by_cases h : i = n
    · subst h; simp; omega
    · have : (i == (n : Int)) = false := by simpa using h
      rw [this, if_neg Bool.false_ne_true]
      by_cases h2 : 0 ≤ i ∧ i < n
      · rw [if_pos h2, if_pos ⟨h2.1, by omega⟩]
      · rw [if_neg h2, if_neg (by omega)]
theorem cnt_add {p q : Nat → Bool} {i : Nat} (hp : p i = false) (hq : q i = true) (hm : ∀ j, p j = true → q j = true) : ∀ {n : Nat}, i < n → cnt p n + 1 ≤ cnt q n
  | 0, h => absurd h (Nat.not_lt_zero _)
  | n + 1, h => by
    simp only [cnt_succ]
    by_cases hi : i = n
    · subst hi
      rw [hp, hq]
      have := cnt_mono (n := i) (p := p) (q := q) (fun j _ => hm j)
      simp; omega
    · have h1 := cnt_add hp hq hm (n := n) (by omega)
      by_cases hx : p n = true
      · rw [if_pos hx, if_pos (hm n hx)]; omega
      · rw [if_neg hx]; omega
theorem cnt_not (b : Nat → Bool) : ∀ n : Nat, cnt (fun i => !b i) n + cnt b n = n
  | 0 => rfl
  | n + 1 => by
    have h := cnt_not b n
    simp only [cnt_succ]
    cases b n <;> simp <;> omega
theorem cnt_filter (p : Nat → Bool) (n : Nat) : ((List.range n).filter p).length = cnt p n := by
  induction n with
  | zero => rfl
  | succ n ih =>
    rw [List.range_succ, List.filter_append, List.length_append, ih]
    rw [cnt_succ]
    by_cases h : p n = true
    · rw [List.filter_cons_of_pos h, if_pos h]; rfl
    · rw [List.filter_cons_of_neg h, if_neg h]; rfl
/-- The process is among the votes for a payload. -/
def has (v : Votes) (t : List UInt8) (j : Nat) : Bool := v.any fun x => x.1 == (j : Int) && x.2 == t
theorem has_iff {v : Votes} {t : List UInt8} {j : Nat} : has v t j = true ↔ ((j : Int), t) ∈ v := by
  unfold has
  rw [List.any_eq_true]
  constructor
  · rintro ⟨x, hx, h⟩
    simp at h
    obtain ⟨h1, h2⟩ := h
    rw [← h1, ← h2]; exact hx
  · intro h
    exact ⟨_, h, by simp⟩
theorem count_cons (i : Int) (s : List UInt8) (v : Votes) (t : List UInt8) : count ((i, s) :: v) t = count v t + (if s = t then 1 else 0) := by
  unfold count
  by_cases h : s = t
  · subst h; simp
  · simp [h]
theorem count_cnt {n : Nat} (t : List UInt8) : ∀ {v : Votes}, (v.map Prod.fst).Nodup → (∀ x ∈ v, 0 ≤ x.1 ∧ x.1 < n) → count v t ≤ cnt (has v t) n
  | [], _, _ => Nat.zero_le _
  | (i, s) :: v, hk, hr => by
    rw [count_cons]
    rw [List.map_cons, List.nodup_cons] at hk
    have ih := count_cnt t hk.2 (fun x hx => hr x (List.mem_cons_of_mem _ hx))
    have hi := hr (i, s) (List.mem_cons_self)
    by_cases h : s = t
    · rw [if_pos h]
      subst h
      refine Nat.le_trans (Nat.add_le_add_right ih 1) (cnt_add (i := i.toNat) ?_ ?_ ?_ (by simp at hi; omega))
      · refine Bool.eq_false_iff.2 fun hx => hk.1 ?_
        have := has_iff.1 hx
        exact List.mem_map.2 ⟨_, this, by simp at hi ⊢; omega⟩
      · refine has_iff.2 ?_
        have : ((i.toNat : Nat) : Int) = i := Int.toNat_of_nonneg hi.1
        rw [this]; exact List.mem_cons_self
      · intro j hj
        exact has_iff.2 (List.mem_cons_of_mem _ (has_iff.1 hj))
    · rw [if_neg h]
      exact Nat.le_trans ih (cnt_mono fun j _ hj => has_iff.2 (List.mem_cons_of_mem _ (has_iff.1 hj)))
theorem cnt_count (n : Nat) (t : List UInt8) : ∀ v : Votes, cnt (has v t) n ≤ count v t
  | [] => by
    have : has [] t = fun _ => false := rfl
    rw [this, cnt_no]; exact Nat.zero_le _
  | (i, s) :: v => by
    rw [count_cons]
    have ih := cnt_count n t v
    by_cases h : s = t
    · subst h
      rw [if_pos rfl]
      have e : has ((i, s) :: v) s = fun (j : Nat) => (i == (j : Int)) || has v s j := by
        funext j; simp [has]
      rw [e]
      refine Nat.le_trans (cnt_or _ _ n) ?_
      rw [cnt_one]
      split <;> omega
    · rw [if_neg h]
      have e : has ((i, s) :: v) t = has v t := by
        funext j; simp [has, h]
      rw [e]; omega
/-! ### one process and one broadcast -/
structure Loc (n : Nat) (c : Cast) : Prop where
  ne : (c.echoes.map Prod.fst).Nodup
  re : ∀ x ∈ c.echoes, 0 ≤ x.1 ∧ x.1 < (n : Int)
  nr : (c.readies.map Prod.fst).Nodup
  rr : ∀ x ∈ c.readies, 0 ≤ x.1 ∧ x.1 < (n : Int)
  te : ∀ t, n + faults n < 2 * count c.echoes t → c.readied = true
  tr : ∀ t, faults n + 1 ≤ count c.readies t → c.readied = true
  td : ∀ t, 2 * faults n + 1 ≤ count c.readies t → c.delivered = true
theorem loc_fresh (n : Nat) (o k : Int) : Loc n (fresh o k) := by
  refine ⟨by simp [fresh], by simp [fresh], by simp [fresh], by simp [fresh], fun t h => ?_, fun t h => ?_, fun t h => ?_⟩ <;> simp [fresh, count] at h
theorem not_voted {v : Votes} {i : Int} (h : ¬ voted v i = true) : i ∉ v.map Prod.fst := by
  intro hx
  obtain ⟨x, hx, e⟩ := List.mem_map.1 hx
  exact h (List.any_eq_true.2 ⟨x, hx, by simpa using e⟩)
theorem nodup_snoc {l : List Int} {i : Int} (h : l.Nodup) (hi : i ∉ l) : (l ++ [i]).Nodup := by
  rw [List.nodup_append]
  exact ⟨h, by simp, fun a ha b hb => by simp at hb; subst hb; exact fun e => hi (e ▸ ha)⟩
theorem Loc.step {n : Nat} {c : Cast} (h : Loc n c) {m : Pkt} (hs : 0 ≤ m.src ∧ m.src < (n : Int)) : Loc n (step n c m).1 := by
  unfold Bra.step
  split
  · split
    · exact h
    · exact ⟨h.ne, h.re, h.nr, h.rr, h.te, h.tr, h.td⟩
  · split
    · split
      · exact h
      · rename_i hv
        refine ⟨?_, ?_, h.nr, h.rr, fun t ht => ?_, fun t ht => ?_, h.td⟩
        · rw [List.map_append]; exact nodup_snoc h.ne (not_voted hv)
        · intro x hx
          rcases List.mem_append.1 hx with hx | hx
          · exact h.re x hx
          · simp at hx; subst hx; exact hs
        · dsimp only at ht ⊢
          rw [count_snoc] at ht
          by_cases e : m.payload = t
          · subst e
            rw [if_pos rfl] at ht
            rw [count_snoc, if_pos rfl, decide_eq_true ht]
            cases c.readied <;> rfl
          · rw [if_neg e] at ht
            rw [h.te t ht]; rfl
        · dsimp only at ht ⊢
          rw [h.tr t ht]; rfl
    · split
      · exact h
      · rename_i hv
        refine ⟨h.ne, h.re, ?_, ?_, fun t ht => ?_, fun t ht => ?_, fun t ht => ?_⟩
        · rw [List.map_append]; exact nodup_snoc h.nr (not_voted hv)
        · intro x hx
          rcases List.mem_append.1 hx with hx | hx
          · exact h.rr x hx
          · simp at hx; subst hx; exact hs
        · dsimp only at ht ⊢
          rw [h.te t ht]; rfl
        · dsimp only at ht ⊢
          rw [count_snoc] at ht
          by_cases e : m.payload = t
          · subst e
            rw [if_pos rfl] at ht
            rw [count_snoc, if_pos rfl, decide_eq_true ht]
            cases c.readied <;> rfl
          · rw [if_neg e] at ht
            rw [h.tr t ht]; rfl
        · dsimp only at ht ⊢
          rw [count_snoc] at ht
          by_cases e : m.payload = t
          · subst e
            rw [if_pos rfl] at ht
            rw [count_snoc, if_pos rfl, decide_eq_true ht]
            cases c.delivered <;> rfl
          · rw [if_neg e] at ht
            rw [h.td t ht]; rfl
/-! ### a group and its broadcasts -/
abbrev Told := Nat → Int → Int → Option (List UInt8)
abbrev Seen := Nat → Int → Int → Cast
structure Inv (n : Nat) (H : Nat → Bool) (E R : Told) (C : Seen) (B : Nat → List (List UInt8)) (P : Pkt → Prop) : Prop where
  ech : ∀ j o k, H j = true → (C j o k).echoed = (E j o k).isSome
  rdy : ∀ j o k, H j = true → (C j o k).readied = (R j o k).isSome
  pk : ∀ m, P m → ∀ j : Nat, m.src = j → H j = true → valid n m.to.toNat m = true ∧ (m.kind = 1 → (B j)[(m.number - 1).toNat]? = some m.payload) ∧ (m.kind = 2 → E j m.origin m.number = some m.payload) ∧ (m.kind = 3 → R j m.origin m.number = some m.payload)
  ve : ∀ i o k x, H i = true → x ∈ (C i o k).echoes → ∀ j : Nat, x.1 = j → H j = true → E j o k = some x.2
  vr : ∀ i o k x, H i = true → x ∈ (C i o k).readies → ∀ j : Nat, x.1 = j → H j = true → R j o k = some x.2
  eo : ∀ j o k t, E j o k = some t → ∀ o' : Nat, o = o' → H o' = true → (B o')[(k - 1).toNat]? = some t
  rq : ∀ j o k t, R j o k = some t → ∃ i, H i = true ∧ n + faults n < 2 * count (C i o k).echoes t
  le : ∀ j o k t i, E j o k = some t → H i = true → P ⟨2, (j : Int), (i : Int), o, k, t⟩ ∨ ((j : Int), t) ∈ (C i o k).echoes
  lr : ∀ j o k t i, R j o k = some t → H i = true → P ⟨3, (j : Int), (i : Int), o, k, t⟩ ∨ ((j : Int), t) ∈ (C i o k).readies
  li : ∀ (o x : Nat) t i, H o = true → (B o)[x]? = some t → H i = true → P ⟨1, (o : Int), (i : Int), (o : Int), ((x + 1 : Nat) : Int), t⟩ ∨ (C i o ((x + 1 : Nat) : Int)).echoed = true
def setC (C : Seen) (i : Nat) (o k : Int) (c : Cast) : Seen := fun i' o' k' => if i' = i ∧ o' = o ∧ k' = k then c else C i' o' k'
def setE (E : Told) (i : Nat) (o k : Int) (t : List UInt8) : Told := fun i' o' k' => if i' = i ∧ o' = o ∧ k' = k then some t else E i' o' k'
theorem setC_same (C : Seen) (i : Nat) (o k : Int) (c : Cast) : setC C i o k c i o k = c := if_pos ⟨rfl, rfl, rfl⟩
theorem setC_other {C : Seen} {i i' : Nat} {o k o' k' : Int} {c : Cast} (h : ¬ (i' = i ∧ o' = o ∧ k' = k)) : setC C i o k c i' o' k' = C i' o' k' := if_neg h
theorem setC_setC (C : Seen) (i : Nat) (o k : Int) (c d : Cast) : setC (setC C i o k c) i o k d = setC C i o k d := by
  funext i' o' k'
  unfold setC
  split <;> rfl
theorem setC_self (C : Seen) (i : Nat) (o k : Int) : setC C i o k (C i o k) = C := by
  funext i' o' k'
  unfold setC
  split
  · rename_i h; rw [h.1, h.2.1, h.2.2]
  · rfl
section
variable {n : Nat} {H : Nat → Bool} {E R : Told} {C : Seen} {B : Nat → List (List UInt8)} {P P' : Pkt → Prop}
/-- A change of one cell that keeps a property of all that have it. -/
theorem setC_all {Q : Nat → Int → Int → Cast → Prop} (h : ∀ i o k, Q i o k (C i o k)) {i : Nat} {o k : Int} {c : Cast} (hc : Q i o k c) (i' : Nat) (o' k' : Int) : Q i' o' k' (setC C i o k c i' o' k') := by
  unfold setC
  split
  · rename_i e; rw [e.1, e.2.1, e.2.2]; exact hc
  · exact h i' o' k'
theorem setC_f {α : Type} (f : Cast → α) {i : Nat} {o k : Int} {c : Cast} (hc : f c = f (C i o k)) (i' : Nat) (o' k' : Int) : f (setC C i o k c i' o' k') = f (C i' o' k') :=
  setC_all (Q := fun a b e d => f d = f (C a b e)) (fun _ _ _ => rfl) hc i' o' k'
/-- A vote more. -/
theorem Inv.vote2 (h : Inv n H E R C B P) {i : Nat} {o k : Int} {src : Int} {t : List UInt8} (hsrc : ∀ j : Nat, src = j → H j = true → E j o k = some t) :
    Inv n H E R (setC C i o k { C i o k with echoes := (C i o k).echoes ++ [(src, t)] }) B P := by
  have hsub : ∀ i' o' k' x, x ∈ (C i' o' k').echoes → x ∈ (setC C i o k { C i o k with echoes := (C i o k).echoes ++ [(src, t)] } i' o' k').echoes := fun i' o' k' x hx =>
    setC_all (Q := fun a b c d => ∀ x, x ∈ (C a b c).echoes → x ∈ d.echoes) (fun _ _ _ _ h => h) (fun x hx => List.mem_append_left _ hx) i' o' k' x hx
  refine ⟨fun j a b hj => ?_, fun j a b hj => ?_, h.pk, fun i' a b x hi' hx j hxj hj => ?_, fun i' a b x hi' hx j hxj hj => ?_, h.eo, fun j a b s hs => ?_, fun j a b s i' hs hi' => ?_, fun j a b s i' hs hi' => ?_, fun a x s i' ha hs hi' => ?_⟩
  · rw [← h.ech j a b hj]; exact setC_f (fun d => d.echoed) (by rfl) j a b
  · rw [← h.rdy j a b hj]; exact setC_f (fun d => d.readied) (by rfl) j a b
  · by_cases e : i' = i ∧ a = o ∧ b = k
    · obtain ⟨rfl, rfl, rfl⟩ := e
      rw [setC_same] at hx
      rcases List.mem_append.1 hx with hx | hx
      · exact h.ve i' a b x hi' hx j hxj hj
      · simp at hx; subst hx; exact hsrc j hxj hj
    · rw [setC_other e] at hx; exact h.ve i' a b x hi' hx j hxj hj
  · have he : (setC C i o k { C i o k with echoes := (C i o k).echoes ++ [(src, t)] } i' a b).readies = (C i' a b).readies := setC_f (fun d => d.readies) (by rfl) i' a b
    rw [he] at hx
    exact h.vr i' a b x hi' hx j hxj hj
  · obtain ⟨i', h1, h2⟩ := h.rq j a b s hs
    refine ⟨i', h1, Nat.lt_of_lt_of_le h2 ?_⟩
    have : count (C i' a b).echoes s ≤ count (setC C i o k { C i o k with echoes := (C i o k).echoes ++ [(src, t)] } i' a b).echoes s :=
      setC_all (C := C) (Q := fun a b c d => count (C a b c).echoes s ≤ count d.echoes s) (fun _ _ _ => Nat.le_refl _) (by rw [count_snoc]; omega) i' a b
    omega
  · rcases h.le j a b s i' hs hi' with hx | hx
    · exact .inl hx
    · exact .inr (hsub _ _ _ _ hx)
  · have he : (setC C i o k { C i o k with echoes := (C i o k).echoes ++ [(src, t)] } i' a b).readies = (C i' a b).readies := setC_f (fun d => d.readies) (by rfl) i' a b
    rw [he]
    exact h.lr j a b s i' hs hi'
  · have he : (setC C i o k { C i o k with echoes := (C i o k).echoes ++ [(src, t)] } i' a ((x + 1 : Nat) : Int)).echoed = (C i' a ((x + 1 : Nat) : Int)).echoed := setC_f (fun d => d.echoed) (by rfl) i' a _
    rw [he]
    exact h.li a x s i' ha hs hi'
theorem Inv.vote3 (h : Inv n H E R C B P) {i : Nat} {o k : Int} {src : Int} {t : List UInt8} (hsrc : ∀ j : Nat, src = j → H j = true → R j o k = some t) :
    Inv n H E R (setC C i o k { C i o k with readies := (C i o k).readies ++ [(src, t)] }) B P := by
  have hech : ∀ i' a b, (setC C i o k { C i o k with readies := (C i o k).readies ++ [(src, t)] } i' a b).echoes = (C i' a b).echoes := setC_f (fun d => d.echoes) (by rfl)
  have hed : ∀ i' a b, (setC C i o k { C i o k with readies := (C i o k).readies ++ [(src, t)] } i' a b).echoed = (C i' a b).echoed := setC_f (fun d => d.echoed) (by rfl)
  have hrd : ∀ i' a b, (setC C i o k { C i o k with readies := (C i o k).readies ++ [(src, t)] } i' a b).readied = (C i' a b).readied := setC_f (fun d => d.readied) (by rfl)
  refine ⟨fun j a b hj => by rw [hed]; exact h.ech j a b hj, fun j a b hj => by rw [hrd]; exact h.rdy j a b hj, h.pk, fun i' a b x hi' hx => h.ve i' a b x hi' (by rw [hech] at hx; exact hx), fun i' a b x hi' hx j hxj hj => ?_, h.eo, fun j a b s hs => ?_, fun j a b s i' hs hi' => by rw [hech]; exact h.le j a b s i' hs hi', fun j a b s i' hs hi' => ?_, fun a x s i' ha hs hi' => by rw [hed]; exact h.li a x s i' ha hs hi'⟩
  · by_cases e : i' = i ∧ a = o ∧ b = k
    · obtain ⟨rfl, rfl, rfl⟩ := e
      rw [setC_same] at hx
      rcases List.mem_append.1 hx with hx | hx
      · exact h.vr i' a b x hi' hx j hxj hj
      · simp at hx; subst hx; exact hsrc j hxj hj
    · rw [setC_other e] at hx; exact h.vr i' a b x hi' hx j hxj hj
  · obtain ⟨i', h1, h2⟩ := h.rq j a b s hs
    exact ⟨i', h1, by rw [hech]; exact h2⟩
  · rcases h.lr j a b s i' hs hi' with hx | hx
    · exact .inl hx
    · exact .inr (setC_all (Q := fun a b c d => ∀ x, x ∈ (C a b c).readies → x ∈ d.readies) (fun _ _ _ _ h => h) (fun x hx => List.mem_append_left _ hx) i' a b _ hx)
theorem valid_all {i : Nat} {kd o k : Int} {t : List UInt8} (hi : i < n) (ho : 0 ≤ o ∧ o < (n : Int)) (hk : 1 ≤ k) (hkd : kd = 2 ∨ kd = 3 ∨ kd = 1 ∧ o = i) {x : Pkt} (hx : x ∈ all n i kd o k t) :
    ∃ j, j < n ∧ x = ⟨kd, (i : Int), (j : Int), o, k, t⟩ ∧ valid n x.to.toNat x = true := by
  obtain ⟨j, hj, rfl⟩ := List.mem_map.1 hx
  refine ⟨j, List.mem_range.1 hj, rfl, ?_⟩
  rcases hkd with rfl | rfl | ⟨rfl, rfl⟩ <;> simp [valid] <;> omega
theorem mem_all {i j : Nat} {kd o k : Int} {t : List UInt8} (hj : j < n) : (⟨kd, (i : Int), (j : Int), o, k, t⟩ : Pkt) ∈ all n i kd o k t := List.mem_map.2 ⟨j, List.mem_range.2 hj, rfl⟩
/-- A process echoes. -/
theorem Inv.echo (h : Inv n H E R C B P) (hH : ∀ j, H j = true → j < n) {i : Nat} {o k : Int} {t : List UInt8} (hi : H i = true) (he : (C i o k).echoed = false) (ho : 0 ≤ o ∧ o < (n : Int)) (hk : 1 ≤ k)
    (hB : ∀ o' : Nat, o = o' → H o' = true → (B o')[(k - 1).toNat]? = some t) (hP1 : ∀ x, P x → P' x) (hP2 : ∀ x, P' x → P x ∨ x ∈ all n i 2 o k t) (hP3 : ∀ x j, x ∈ all n i 2 o k t → x.to = ((j : Nat) : Int) → H j = true → P' x) :
    Inv n H (setE E i o k t) R (setC C i o k { C i o k with echoed := true }) B P' := by
  have hech : ∀ i' a b, (setC C i o k { C i o k with echoed := true } i' a b).echoes = (C i' a b).echoes := setC_f (fun d => d.echoes) (by rfl)
  have hres : ∀ i' a b, (setC C i o k { C i o k with echoed := true } i' a b).readies = (C i' a b).readies := setC_f (fun d => d.readies) (by rfl)
  have hrd : ∀ i' a b, (setC C i o k { C i o k with echoed := true } i' a b).readied = (C i' a b).readied := setC_f (fun d => d.readied) (by rfl)
  have hno : E i o k = none := by have := h.ech i o k hi; rw [he] at this; exact Option.isNone_iff_eq_none.1 (by cases hx : E i o k <;> simp [hx] at this ⊢)
  have hE : ∀ j a b s, E j a b = some s → setE E i o k t j a b = some s := fun j a b s hs => by
    unfold setE
    rw [if_neg (by rintro ⟨rfl, rfl, rfl⟩; rw [hno] at hs; cases hs)]; exact hs
  have hE' : ∀ j a b s, setE E i o k t j a b = some s → (j = i ∧ a = o ∧ b = k ∧ s = t) ∨ E j a b = some s := fun j a b s hs => by
    unfold setE at hs
    split at hs
    · rename_i e; exact .inl ⟨e.1, e.2.1, e.2.2, by cases hs; rfl⟩
    · exact .inr hs
  refine ⟨fun j a b hj => ?_, fun j a b hj => by rw [hrd]; exact h.rdy j a b hj, fun m hm j hmj hj => ?_, fun i' a b x hi' hx j hxj hj => hE _ _ _ _ (h.ve i' a b x hi' (by rw [hech] at hx; exact hx) j hxj hj), fun i' a b x hi' hx => h.vr i' a b x hi' (by rw [hres] at hx; exact hx),
    fun j a b s hs a' ha ha' => ?_, fun j a b s hs => ?_, fun j a b s i' hs hi' => ?_, fun j a b s i' hs hi' => ?_, fun a x s i' ha hs hi' => ?_⟩
  · unfold setC setE
    split
    · rfl
    · exact h.ech j a b hj
  · rcases hP2 m hm with hm | hm
    · obtain ⟨p1, p2, p3, p4⟩ := h.pk m hm j hmj hj
      exact ⟨p1, p2, fun e => hE _ _ _ _ (p3 e), p4⟩
    · obtain ⟨j', hj', rfl, hv⟩ := valid_all (hH i hi) ho hk (.inl rfl) hm
      have hij : i = j := by simp at hmj; omega
      subst hij
      refine ⟨hv, fun e => by simp at e, fun _ => ?_, fun e => by simp at e⟩
      unfold setE
      rw [if_pos ⟨rfl, rfl, rfl⟩]
  · rcases hE' j a b s hs with ⟨rfl, rfl, rfl, rfl⟩ | hs
    · exact hB a' ha ha'
    · exact h.eo j a b s hs a' ha ha'
  · obtain ⟨i', h1, h2⟩ := h.rq j a b s hs
    exact ⟨i', h1, by rw [hech]; exact h2⟩
  · rw [hech]
    rcases hE' j a b s hs with ⟨rfl, rfl, rfl, rfl⟩ | hs
    · exact .inl (hP3 _ i' (mem_all (hH i' hi')) rfl hi')
    · rcases h.le j a b s i' hs hi' with hx | hx
      · exact .inl (hP1 _ hx)
      · exact .inr hx
  · rw [hres]
    rcases h.lr j a b s i' hs hi' with hx | hx
    · exact .inl (hP1 _ hx)
    · exact .inr hx
  · rcases h.li a x s i' ha hs hi' with hx | hx
    · exact .inl (hP1 _ hx)
    · refine .inr ?_
      unfold setC
      split
      · rfl
      · exact hx
/-- A process is ready. -/
theorem Inv.ready (h : Inv n H E R C B P) (hH : ∀ j, H j = true → j < n) {i : Nat} {o k : Int} {t : List UInt8} (hi : H i = true) (he : (C i o k).readied = false) (ho : 0 ≤ o ∧ o < (n : Int)) (hk : 1 ≤ k)
    (hq : ∃ i', H i' = true ∧ n + faults n < 2 * count (C i' o k).echoes t) (hP1 : ∀ x, P x → P' x) (hP2 : ∀ x, P' x → P x ∨ x ∈ all n i 3 o k t) (hP3 : ∀ x j, x ∈ all n i 3 o k t → x.to = ((j : Nat) : Int) → H j = true → P' x) :
    Inv n H E (setE R i o k t) (setC C i o k { C i o k with readied := true }) B P' := by
  have hech : ∀ i' a b, (setC C i o k { C i o k with readied := true } i' a b).echoes = (C i' a b).echoes := setC_f (fun d => d.echoes) (by rfl)
  have hres : ∀ i' a b, (setC C i o k { C i o k with readied := true } i' a b).readies = (C i' a b).readies := setC_f (fun d => d.readies) (by rfl)
  have hed : ∀ i' a b, (setC C i o k { C i o k with readied := true } i' a b).echoed = (C i' a b).echoed := setC_f (fun d => d.echoed) (by rfl)
  have hno : R i o k = none := by have := h.rdy i o k hi; rw [he] at this; exact Option.isNone_iff_eq_none.1 (by cases hx : R i o k <;> simp [hx] at this ⊢)
  have hR : ∀ j a b s, R j a b = some s → setE R i o k t j a b = some s := fun j a b s hs => by
    unfold setE
    rw [if_neg (by rintro ⟨rfl, rfl, rfl⟩; rw [hno] at hs; cases hs)]; exact hs
  have hR' : ∀ j a b s, setE R i o k t j a b = some s → (j = i ∧ a = o ∧ b = k ∧ s = t) ∨ R j a b = some s := fun j a b s hs => by
    unfold setE at hs
    split at hs
    · rename_i e; exact .inl ⟨e.1, e.2.1, e.2.2, by cases hs; rfl⟩
    · exact .inr hs
  refine ⟨fun j a b hj => by rw [hed]; exact h.ech j a b hj, fun j a b hj => ?_, fun m hm j hmj hj => ?_, fun i' a b x hi' hx => h.ve i' a b x hi' (by rw [hech] at hx; exact hx), fun i' a b x hi' hx j hxj hj => hR _ _ _ _ (h.vr i' a b x hi' (by rw [hres] at hx; exact hx) j hxj hj),
    h.eo, fun j a b s hs => ?_, fun j a b s i' hs hi' => ?_, fun j a b s i' hs hi' => ?_, fun a x s i' ha hs hi' => ?_⟩
  · unfold setC setE
    split
    · rfl
    · exact h.rdy j a b hj
  · rcases hP2 m hm with hm | hm
    · obtain ⟨p1, p2, p3, p4⟩ := h.pk m hm j hmj hj
      exact ⟨p1, p2, p3, fun e => hR _ _ _ _ (p4 e)⟩
    · obtain ⟨j', hj', rfl, hv⟩ := valid_all (hH i hi) ho hk (.inr (.inl rfl)) hm
      have hij : i = j := by simp at hmj; omega
      subst hij
      refine ⟨hv, fun e => by simp at e, fun e => by simp at e, fun _ => ?_⟩
      unfold setE
      rw [if_pos ⟨rfl, rfl, rfl⟩]
  · rcases hR' j a b s hs with ⟨rfl, rfl, rfl, rfl⟩ | hs
    · obtain ⟨i', h1, h2⟩ := hq
      exact ⟨i', h1, by rw [hech]; exact h2⟩
    · obtain ⟨i', h1, h2⟩ := h.rq j a b s hs
      exact ⟨i', h1, by rw [hech]; exact h2⟩
  · rw [hech]
    rcases h.le j a b s i' hs hi' with hx | hx
    · exact .inl (hP1 _ hx)
    · exact .inr hx
  · rw [hres]
    rcases hR' j a b s hs with ⟨rfl, rfl, rfl, rfl⟩ | hs
    · exact .inl (hP3 _ i' (mem_all (hH i' hi')) rfl hi')
    · rcases h.lr j a b s i' hs hi' with hx | hx
      · exact .inl (hP1 _ hx)
      · exact .inr hx
  · rw [hed]
    rcases h.li a x s i' ha hs hi' with hx | hx
    · exact .inl (hP1 _ hx)
    · exact .inr hx
/-- A process has delivered. -/
theorem Inv.told (h : Inv n H E R C B P) {i : Nat} {o k : Int} (b : Bool) : Inv n H E R (setC C i o k { C i o k with delivered := b }) B P := by
  have hech : ∀ i' a c, (setC C i o k { C i o k with delivered := b } i' a c).echoes = (C i' a c).echoes := setC_f (fun d => d.echoes) (by rfl)
  have hres : ∀ i' a c, (setC C i o k { C i o k with delivered := b } i' a c).readies = (C i' a c).readies := setC_f (fun d => d.readies) (by rfl)
  have hed : ∀ i' a c, (setC C i o k { C i o k with delivered := b } i' a c).echoed = (C i' a c).echoed := setC_f (fun d => d.echoed) (by rfl)
  have hrd : ∀ i' a c, (setC C i o k { C i o k with delivered := b } i' a c).readied = (C i' a c).readied := setC_f (fun d => d.readied) (by rfl)
  exact ⟨fun j a b hj => by rw [hed]; exact h.ech j a b hj, fun j a b hj => by rw [hrd]; exact h.rdy j a b hj, h.pk, fun i' a b x hi' hx => h.ve i' a b x hi' (by rw [hech] at hx; exact hx), fun i' a b x hi' hx => h.vr i' a b x hi' (by rw [hres] at hx; exact hx), h.eo,
    fun j a b s hs => by
      obtain ⟨i', h1, h2⟩ := h.rq j a b s hs
      exact ⟨i', h1, by rw [hech]; exact h2⟩,
    fun j a b s i' hs hi' => by rw [hech]; exact h.le j a b s i' hs hi', fun j a b s i' hs hi' => by rw [hres]; exact h.lr j a b s i' hs hi', fun a x s i' ha hs hi' => by rw [hed]; exact h.li a x s i' ha hs hi'⟩
/-- The message has been received. -/
def Used (C : Seen) (m : Pkt) : Prop := (m.kind = 1 → (C m.to.toNat m.origin m.number).echoed = true) ∧ (m.kind = 2 → (m.src, m.payload) ∈ (C m.to.toNat m.origin m.number).echoes) ∧ (m.kind = 3 → (m.src, m.payload) ∈ (C m.to.toNat m.origin m.number).readies)
/-- A received message of an honest process may go. -/
theorem Inv.less (h : Inv n H E R C B P) (h1 : ∀ x, P' x → P x) (h2 : ∀ x, P x → P' x ∨ Used C x ∨ (∀ j : Nat, x.src = j → H j = false) ∨ ∀ j : Nat, x.to = j → H j = false) (hE : ∀ j o k t, E j o k = some t → H j = true) (hR : ∀ j o k t, R j o k = some t → H j = true) : Inv n H E R C B P' := by
  refine ⟨h.ech, h.rdy, fun m hm => h.pk m (h1 m hm), h.ve, h.vr, h.eo, h.rq, fun j a b s i' hs hi' => ?_, fun j a b s i' hs hi' => ?_, fun a x s i' ha hs hi' => ?_⟩
  · rcases h.le j a b s i' hs hi' with hx | hx
    · rcases h2 _ hx with hx | hx | hx | hx
      · exact .inl hx
      · exact .inr (hx.2.1 rfl)
      · have := hx j rfl; rw [hE _ _ _ _ hs] at this; cases this
      · have := hx i' rfl; rw [hi'] at this; cases this
    · exact .inr hx
  · rcases h.lr j a b s i' hs hi' with hx | hx
    · rcases h2 _ hx with hx | hx | hx | hx
      · exact .inl hx
      · exact .inr (hx.2.2 rfl)
      · have := hx j rfl; rw [hR _ _ _ _ hs] at this; cases this
      · have := hx i' rfl; rw [hi'] at this; cases this
    · exact .inr hx
  · rcases h.li a x s i' ha hs hi' with hx | hx
    · rcases h2 _ hx with hx | hx | hx | hx
      · exact .inl hx
      · exact .inr (hx.1 rfl)
      · have := hx a rfl; rw [ha] at this; cases this
      · have := hx i' rfl; rw [hi'] at this; cases this
    · exact .inr hx
/-- A message of a liar. -/
theorem Inv.more (h : Inv n H E R C B P) (h1 : ∀ x, P x → P' x) (h2 : ∀ x, P' x → P x ∨ ∀ j : Nat, x.src = j → H j = false) : Inv n H E R C B P' := by
  refine ⟨h.ech, h.rdy, fun m hm j hmj hj => ?_, h.ve, h.vr, h.eo, h.rq, fun j a b s i' hs hi' => ?_, fun j a b s i' hs hi' => ?_, fun a x s i' ha hs hi' => ?_⟩
  · rcases h2 m hm with hm | hm
    · exact h.pk m hm j hmj hj
    · rw [hm j hmj] at hj; cases hj
  · rcases h.le j a b s i' hs hi' with hx | hx
    · exact .inl (h1 _ hx)
    · exact .inr hx
  · rcases h.lr j a b s i' hs hi' with hx | hx
    · exact .inl (h1 _ hx)
    · exact .inr hx
  · rcases h.li a x s i' ha hs hi' with hx | hx
    · exact .inl (h1 _ hx)
    · exact .inr hx
/-- An honest process broadcasts. -/
theorem Inv.cast (h : Inv n H E R C B P) (hH : ∀ j, H j = true → j < n) {i : Nat} {t : List UInt8} (hi : H i = true) (hP1 : ∀ x, P x → P' x) (hP2 : ∀ x, P' x → P x ∨ x ∈ all n i 1 i (((B i).length + 1 : Nat) : Int) t)
    (hP3 : ∀ x j, x ∈ all n i 1 i (((B i).length + 1 : Nat) : Int) t → x.to = ((j : Nat) : Int) → H j = true → P' x) : Inv n H E R C (fun j => if j = i then B i ++ [t] else B j) P' := by
  have hB : ∀ j x s, (B j)[x]? = some s → (if j = i then B i ++ [t] else B j)[x]? = some s := fun j x s hs => by
    by_cases e : j = i
    · subst e
      rw [if_pos rfl, List.getElem?_append_left (List.getElem?_eq_some_iff.1 hs).1]; exact hs
    · rw [if_neg e]; exact hs
  refine ⟨h.ech, h.rdy, fun m hm j hmj hj => ?_, h.ve, h.vr, fun j a b s hs a' ha ha' => hB _ _ _ (h.eo j a b s hs a' ha ha'), h.rq, fun j a b s i' hs hi' => ?_, fun j a b s i' hs hi' => ?_, fun a x s i' ha hs hi' => ?_⟩
  · rcases hP2 m hm with hm | hm
    · obtain ⟨p1, p2, p3, p4⟩ := h.pk m hm j hmj hj
      exact ⟨p1, fun e => hB _ _ _ (p2 e), p3, p4⟩
    · have hin := hH i hi
      obtain ⟨j', hj', rfl, hv⟩ := valid_all hin (o := i) (by omega) (by omega) (.inr (.inr ⟨rfl, rfl⟩)) hm
      have hij : i = j := by simp at hmj; omega
      subst hij
      refine ⟨hv, fun _ => ?_, fun e => by simp at e, fun e => by simp at e⟩
      simp
  · rcases h.le j a b s i' hs hi' with hx | hx
    · exact .inl (hP1 _ hx)
    · exact .inr hx
  · rcases h.lr j a b s i' hs hi' with hx | hx
    · exact .inl (hP1 _ hx)
    · exact .inr hx
  · by_cases hai : a = i
    · subst hai
      simp only [if_true] at hs
      rw [List.getElem?_append] at hs
      split at hs
      · rcases h.li a x s i' ha hs hi' with hx | hx
        · exact .inl (hP1 _ hx)
        · exact .inr hx
      · rename_i hxl
        have hx0 : x - (B a).length = 0 := by
          have := (List.getElem?_eq_some_iff.1 hs).1
          simp at this; omega
        rw [hx0] at hs
        have hs : t = s := by simpa using hs
        subst hs
        have hxe : x = (B a).length := by omega
        subst hxe
        exact .inl (hP3 _ i' (mem_all (hH i' hi')) rfl hi')
    · simp only [if_neg hai] at hs
      rcases h.li a x s i' ha hs hi' with hx | hx
      · exact .inl (hP1 _ hx)
      · exact .inr hx
end
end Bra

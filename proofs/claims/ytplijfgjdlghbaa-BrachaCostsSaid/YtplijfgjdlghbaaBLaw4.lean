/-
  What holds of a group in every run: nothing delivered differs.
-/
import Derived.Test.YtplijfgjdlghbaaBLaw3
import Derived.Test.YtplijfgjdlghbaaBG
namespace Bra
section
variable {n : Nat} {H : Nat → Bool} {E R : Told} {C : Seen} {B : Nat → List (List UInt8)} {P P' : Pkt → Prop}
theorem cnt_ex {p b : Nat → Bool} {n : Nat} (h : cnt b n < cnt p n) : ∃ j, j < n ∧ p j = true ∧ b j = false := by
  apply Classical.byContradiction
  intro hx
  have : cnt p n ≤ cnt b n := cnt_mono fun i hi hp => by
    cases hb : b i with
    | true => rfl
    | false => exact absurd ⟨i, hi, hp, hb⟩ hx
  omega
theorem faults_lt {n : Nat} (h : 1 ≤ n) : 3 * faults n + 1 ≤ n := by unfold faults; omega
/-- Enough votes hold one of an honest process. -/
theorem some_honest (hf : cnt (fun j => !H j) n ≤ faults n) {v : Votes} (hn : (v.map Prod.fst).Nodup) (hr : ∀ x ∈ v, 0 ≤ x.1 ∧ x.1 < (n : Int)) {t : List UInt8} (hc : faults n + 1 ≤ count v t) : ∃ j, H j = true ∧ ((j : Int), t) ∈ v := by
  have h1 := count_cnt t hn hr
  obtain ⟨j, -, h2, h3⟩ := cnt_ex (p := has v t) (b := fun j => !H j) (n := n) (by omega)
  exact ⟨j, by simpa using h3, has_iff.1 h2⟩
theorem echo_of (h : Inv n H E R C B P) (h1 : 1 ≤ n) (hf : cnt (fun j => !H j) n ≤ faults n) {i : Nat} {o k : Int} {t : List UInt8} (hi : H i = true) (hl : Loc n (C i o k)) (hc : n + faults n < 2 * count (C i o k).echoes t) : ∃ j, H j = true ∧ E j o k = some t := by
  have h3 := faults_lt h1
  obtain ⟨j, hj, hm⟩ := some_honest hf hl.ne hl.re (t := t) (by omega)
  exact ⟨j, hj, h.ve i o k _ hi hm j rfl hj⟩
theorem ready_of (h : Inv n H E R C B P) (hf : cnt (fun j => !H j) n ≤ faults n) {i : Nat} {o k : Int} {t : List UInt8} (hi : H i = true) (hn : ((C i o k).readies.map Prod.fst).Nodup) (hr : ∀ x ∈ (C i o k).readies, 0 ≤ x.1 ∧ x.1 < (n : Int)) (hc : faults n + 1 ≤ count (C i o k).readies t) : ∃ j, H j = true ∧ R j o k = some t := by
  obtain ⟨j, hj, hm⟩ := some_honest hf hn hr hc
  exact ⟨j, hj, h.vr i o k _ hi hm j rfl hj⟩
theorem echoes_same (h : Inv n H E R C B P) (hf : cnt (fun j => !H j) n ≤ faults n) (hl : ∀ i o k, Loc n (C i o k)) {i i' : Nat} {o k : Int} {t t' : List UInt8} (hi : H i = true) (hi' : H i' = true) (hc : n + faults n < 2 * count (C i o k).echoes t) (hc' : n + faults n < 2 * count (C i' o k).echoes t') : t = t' := by
  have c1 := count_cnt t (hl i o k).ne (hl i o k).re
  have c2 := count_cnt t' (hl i' o k).ne (hl i' o k).re
  apply Classical.byContradiction
  intro hne
  have : cnt (has (C i o k).echoes t) n + cnt (has (C i' o k).echoes t') n ≤ n + cnt (fun j => !H j) n := cnt_two fun j hj p q => by
    cases hb : H j with
    | false => rfl
    | true =>
      have e1 := h.ve i o k _ hi (has_iff.1 p) j rfl hb
      have e2 := h.ve i' o k _ hi' (has_iff.1 q) j rfl hb
      rw [e1] at e2
      exact absurd (Option.some.inj e2) hne
  omega
theorem ready_same (h : Inv n H E R C B P) (hf : cnt (fun j => !H j) n ≤ faults n) (hl : ∀ i o k, Loc n (C i o k)) {j j' : Nat} {o k : Int} {t t' : List UInt8} (h1 : R j o k = some t) (h2 : R j' o k = some t') : t = t' := by
  obtain ⟨i, a1, a2⟩ := h.rq j o k t h1
  obtain ⟨i', b1, b2⟩ := h.rq j' o k t' h2
  exact echoes_same h hf hl a1 b1 a2 b2
/-- Delivered payloads of one broadcast are the same. -/
theorem del_same (h : Inv n H E R C B P) (hf : cnt (fun j => !H j) n ≤ faults n) (hl : ∀ i o k, Loc n (C i o k)) {i i' : Nat} {o k : Int} {t t' : List UInt8} (hi : H i = true) (hi' : H i' = true) (hc : 2 * faults n + 1 ≤ count (C i o k).readies t) (hc' : 2 * faults n + 1 ≤ count (C i' o k).readies t') : t = t' := by
  obtain ⟨j, -, h1⟩ := ready_of h hf hi (hl i o k).nr (hl i o k).rr (t := t) (by omega)
  obtain ⟨j', -, h2⟩ := ready_of h hf hi' (hl i' o k).nr (hl i' o k).rr (t := t') (by omega)
  exact ready_same h hf hl h1 h2
/-- What is delivered of an honest process it has broadcast. -/
theorem del_cast (h : Inv n H E R C B P) (hn : 1 ≤ n) (hf : cnt (fun j => !H j) n ≤ faults n) (hl : ∀ i o k, Loc n (C i o k)) {i : Nat} {o : Nat} {k : Int} {t : List UInt8} (hi : H i = true) (ho : H o = true) (hc : 2 * faults n + 1 ≤ count (C i o k).readies t) : (B o)[(k - 1).toNat]? = some t := by
  obtain ⟨j, -, h1⟩ := ready_of h hf hi (hl i o k).nr (hl i o k).rr (t := t) (by omega)
  obtain ⟨i', a1, a2⟩ := h.rq j o k t h1
  obtain ⟨j', -, b1⟩ := echo_of h hn hf a1 (hl i' o k) a2
  exact h.eo j' o k t b1 o rfl ho
/-- A message comes in. -/
theorem Inv.recv (h : Inv n H E R C B P) (hH : ∀ j, H j = true → j < n) (hf : cnt (fun j => !H j) n ≤ faults n) (hE : ∀ j o k t, E j o k = some t → H j = true) (hR : ∀ j o k t, R j o k = some t → H j = true)
    {i : Nat} {m : Pkt} (hi : H i = true) (hl : Loc n (C i m.origin m.number)) (hv : valid n i m = true)
    (hg : ∀ j : Nat, m.src = j → H j = true → (m.kind = 1 → (B j)[(m.number - 1).toNat]? = some m.payload) ∧ (m.kind = 2 → E j m.origin m.number = some m.payload) ∧ (m.kind = 3 → R j m.origin m.number = some m.payload))
    (hP1 : ∀ x, P x → P' x) (hP2 : ∀ x, P' x → P x ∨ ((step n (C i m.origin m.number) m).2.1 = true ∧ x ∈ all n i (reply m.kind) m.origin m.number m.payload))
    (hP3 : (step n (C i m.origin m.number) m).2.1 = true → ∀ x j, x ∈ all n i (reply m.kind) m.origin m.number m.payload → x.to = ((j : Nat) : Int) → H j = true → P' x) :
    ∃ E' R', Inv n H E' R' (setC C i m.origin m.number (step n (C i m.origin m.number) m).1) B P' ∧ (∀ j o k t, E' j o k = some t → H j = true) ∧ (∀ j o k t, R' j o k = some t → H j = true) := by
  have hv' := hv
  simp [valid] at hv'
  obtain ⟨⟨⟨⟨⟨⟨⟨⟨v1, v2⟩, v3⟩, v4⟩, v5⟩, v6⟩, v7⟩, v8⟩, v9⟩ := hv'
  have hl2 := hl.step (n := n) (m := m) ⟨v2, v3⟩
  have same : ∀ {C' : Seen}, Inv n H E R C' B P → (∀ x, P' x → P x) → Inv n H E R C' B P' := fun h' hp => h'.more hP1 (fun x hx => .inl (hp x hx))
  have sE : ∀ {t : List UInt8}, ∀ j o k s, setE E i m.origin m.number t j o k = some s → H j = true := fun j o k s hs => by
    unfold setE at hs
    split at hs
    · rename_i e; rw [e.1]; exact hi
    · exact hE j o k s hs
  have sR : ∀ {t : List UInt8}, ∀ j o k s, setE R i m.origin m.number t j o k = some s → H j = true := fun j o k s hs => by
    unfold setE at hs
    split at hs
    · rename_i e; rw [e.1]; exact hi
    · exact hR j o k s hs
  unfold step at hP2 hP3 hl2 ⊢
  by_cases k1 : m.kind = 1
  · rw [if_pos k1] at hP2 hP3 hl2 ⊢
    have hr : reply m.kind = 2 := by unfold reply; rw [if_pos k1]
    rw [hr] at hP2 hP3
    by_cases he : (C i m.origin m.number).echoed = true
    · rw [if_pos he] at hP2 hP3 hl2 ⊢
      refine ⟨E, R, ?_, hE, hR⟩
      rw [setC_self]
      exact same h (fun x hx => by rcases hP2 x hx with hx | hx; exact hx; exact absurd hx.1 (by simp))
    · rw [if_neg he] at hP2 hP3 hl2 ⊢
      refine ⟨_, R, h.echo hH hi (by simpa using he) ⟨v4, v5⟩ v6 (fun o' ho ho' => ?_) hP1 (fun x hx => ?_) (fun x j hx hxj hj => hP3 rfl x j hx hxj hj), sE, hR⟩
      · have hs : m.src = m.origin := v9.resolve_left (fun h => h k1)
        exact (hg o' (hs.trans ho) ho').1 k1
      · rcases hP2 x hx with hx | hx
        · exact .inl hx
        · exact .inr hx.2
  · rw [if_neg k1] at hP2 hP3 hl2 ⊢
    have hr : reply m.kind = 3 := by unfold reply; rw [if_neg k1]
    rw [hr] at hP2 hP3
    by_cases k2 : m.kind = 2
    · rw [if_pos k2] at hP2 hP3 hl2 ⊢
      by_cases he : voted (C i m.origin m.number).echoes m.src = true
      · rw [if_pos he] at hP2 hP3 hl2 ⊢
        refine ⟨E, R, ?_, hE, hR⟩
        rw [setC_self]
        exact same h (fun x hx => by rcases hP2 x hx with hx | hx; exact hx; exact absurd hx.1 (by simp))
      · rw [if_neg he] at hP2 hP3 hl2 ⊢
        have hv2 := h.vote2 (i := i) (o := m.origin) (k := m.number) (src := m.src) (t := m.payload) (fun j hj hHj => (hg j hj hHj).2.1 k2)
        dsimp only at hP2 hP3 hl2 ⊢
        by_cases hs : (decide (n + faults n < 2 * count ((C i m.origin m.number).echoes ++ [(m.src, m.payload)]) m.payload) && !(C i m.origin m.number).readied) = true
        · rw [hs] at hP2 hP3 ⊢
          simp only [Bool.and_eq_true, decide_eq_true_eq, Bool.not_eq_true'] at hs
          have hq := hv2.ready (P' := P') hH (i := i) (o := m.origin) (k := m.number) (t := m.payload) hi (by rw [setC_same]; exact hs.2) ⟨v4, v5⟩ v6 ⟨i, hi, by rw [setC_same]; exact hs.1⟩ hP1 (fun x hx => by
            rcases hP2 x hx with hx | hx
            · exact .inl hx
            · exact .inr hx.2) (fun x j hx hxj hj => hP3 rfl x j hx hxj hj)
          rw [setC_setC, setC_same] at hq
          refine ⟨E, _, ?_, hE, sR (t := m.payload)⟩
          rw [Bool.or_true]
          exact hq
        · have hs' := Bool.eq_false_iff.2 hs
          rw [hs'] at hP2 hP3 ⊢
          refine ⟨E, R, ?_, hE, hR⟩
          rw [Bool.or_false]
          exact same hv2 (fun x hx => by rcases hP2 x hx with hx | hx; exact hx; exact absurd hx.1 (by simp))
    · rw [if_neg k2] at hP2 hP3 hl2 ⊢
      have k3 : m.kind = 3 := by omega
      by_cases he : voted (C i m.origin m.number).readies m.src = true
      · rw [if_pos he] at hP2 hP3 hl2 ⊢
        refine ⟨E, R, ?_, hE, hR⟩
        rw [setC_self]
        exact same h (fun x hx => by rcases hP2 x hx with hx | hx; exact hx; exact absurd hx.1 (by simp))
      · rw [if_neg he] at hP2 hP3 hl2 ⊢
        have hv2 := h.vote3 (i := i) (o := m.origin) (k := m.number) (src := m.src) (t := m.payload) (fun j hj hHj => (hg j hj hHj).2.2 k3)
        dsimp only at hP2 hP3 hl2 ⊢
        by_cases hs : (decide (faults n + 1 ≤ count ((C i m.origin m.number).readies ++ [(m.src, m.payload)]) m.payload) && !(C i m.origin m.number).readied) = true
        · rw [hs] at hP2 hP3 ⊢
          simp only [Bool.and_eq_true, decide_eq_true_eq, Bool.not_eq_true'] at hs
          obtain ⟨j, hj, hRj⟩ := ready_of hv2 hf hi (o := m.origin) (k := m.number) (t := m.payload) (by rw [setC_same]; exact hl2.nr) (by rw [setC_same]; exact hl2.rr) (by rw [setC_same]; exact hs.1)
          have hq := hv2.ready (P' := P') hH (i := i) (o := m.origin) (k := m.number) (t := m.payload) hi (by rw [setC_same]; exact hs.2) ⟨v4, v5⟩ v6 (hv2.rq j _ _ _ hRj) hP1 (fun x hx => by
            rcases hP2 x hx with hx | hx
            · exact .inl hx
            · exact .inr hx.2) (fun x j hx hxj hj => hP3 rfl x j hx hxj hj)
          rw [setC_setC, setC_same] at hq
          have hd := hq.told (i := i) (o := m.origin) (k := m.number) ((C i m.origin m.number).delivered || (decide (2 * faults n + 1 ≤ count ((C i m.origin m.number).readies ++ [(m.src, m.payload)]) m.payload) && !(C i m.origin m.number).delivered))
          rw [setC_setC, setC_same] at hd
          refine ⟨E, _, ?_, hE, sR (t := m.payload)⟩
          rw [Bool.or_true]
          exact hd
        · have hs' := Bool.eq_false_iff.2 hs
          rw [hs'] at hP2 hP3 ⊢
          have hd := hv2.told (i := i) (o := m.origin) (k := m.number) ((C i m.origin m.number).delivered || (decide (2 * faults n + 1 ≤ count ((C i m.origin m.number).readies ++ [(m.src, m.payload)]) m.payload) && !(C i m.origin m.number).delivered))
          rw [setC_setC, setC_same] at hd
          refine ⟨E, R, ?_, hE, hR⟩
          rw [Bool.or_false]
          exact same hd (fun x hx => by rcases hP2 x hx with hx | hx; exact hx; exact absurd hx.1 (by simp))
end
end Bra

/-
  What holds of a group in every run; what all have delivered when nothing is pending.
-/
import Derived.Test.YtplijfgjdlghbaaBLaw4
namespace Bra
/-! ### deliveries of one process -/
structure Dn (n : Nat) (p : Proc) : Prop where
  dn : ∀ d ∈ p.done, 0 ≤ d.origin ∧ d.origin < (n : Int) ∧ 1 ≤ d.number ∧ 2 * faults n + 1 ≤ count (look p.casts d.origin d.number).readies d.payload
  dt : ∀ d ∈ p.done, (look p.casts d.origin d.number).delivered = true
  dl : ∀ o k, (look p.casts o k).delivered = true → ∃ t, (⟨o, k, t⟩ : Del) ∈ p.done
  dd : (p.done.map fun d => (d.origin, d.number)).Nodup
theorem dn_start (n j : Nat) : Dn n (start n j) := ⟨by simp [start], by simp [start], fun o k h => by simp [start, look, fresh] at h, by simp [start]⟩
theorem step_dl (n : Nat) (c : Cast) (m : Pkt) : (step n c m).1.delivered = (c.delivered || (step n c m).2.2) ∧ ((step n c m).2.2 = true → c.delivered = false ∧ 2 * faults n + 1 ≤ count (step n c m).1.readies m.payload) ∧ ∀ t, count c.readies t ≤ count (step n c m).1.readies t := by
  unfold step
  split
  · split <;> exact ⟨by simp, by simp, fun t => Nat.le_refl _⟩
  · split
    · split
      · exact ⟨by simp, by simp, fun t => Nat.le_refl _⟩
      · exact ⟨by simp, by simp, fun t => Nat.le_refl _⟩
    · split
      · exact ⟨by simp, by simp, fun t => Nat.le_refl _⟩
      · refine ⟨rfl, fun h => ?_, fun t => ?_⟩
        · simp only [Bool.and_eq_true, decide_eq_true_eq, Bool.not_eq_true'] at h
          exact ⟨h.2, h.1⟩
        · dsimp only; rw [count_snoc]; omega
theorem Dn.recv {n : Nat} {p : Proc} (h : Dn n p) (hn : p.n = n) (m : Pkt) : Dn n (Bra.recv p m).1 := by
  cases hv : valid p.n p.self m with
  | false => rw [recv_bad hv]; exact h
  | true =>
    have hv' := hv
    simp [valid] at hv'
    obtain ⟨⟨⟨⟨⟨⟨⟨⟨v1, v2⟩, v3⟩, v4⟩, v5⟩, v6⟩, v7⟩, v8⟩, v9⟩ := hv'
    rw [hn] at v5
    obtain ⟨s1, s2, s3⟩ := step_dl p.n (look p.casts m.origin m.number) m
    have hc := recv_upd hv
    have hd : (Bra.recv p m).1.done = if (step p.n (look p.casts m.origin m.number) m).2.2 then p.done ++ [⟨m.origin, m.number, m.payload⟩] else p.done := by rw [recv_valid hv rfl]
    have same : look (Bra.recv p m).1.casts m.origin m.number = (step p.n (look p.casts m.origin m.number) m).1 := by rw [hc, look_upd_same (step_is (look_is _ _ _))]
    have oth : ∀ {o k : Int}, ¬ (m.origin = o ∧ m.number = k) → look (Bra.recv p m).1.casts o k = look p.casts o k := fun hne => by rw [hc, look_upd_other (step_is (look_is _ _ _)) hne]
    have cle : ∀ o k t, count (look p.casts o k).readies t ≤ count (look (Bra.recv p m).1.casts o k).readies t := fun o k t => by
      by_cases e : m.origin = o ∧ m.number = k
      · obtain ⟨rfl, rfl⟩ := e
        rw [same]; exact s3 t
      · rw [oth e]; exact Nat.le_refl _
    have dle : ∀ o k, (look p.casts o k).delivered = true → (look (Bra.recv p m).1.casts o k).delivered = true := fun o k hx => by
      by_cases e : m.origin = o ∧ m.number = k
      · obtain ⟨rfl, rfl⟩ := e
        rw [same, s1, hx]; rfl
      · rw [oth e]; exact hx
    rw [hn] at s2
    by_cases hx : (step p.n (look p.casts m.origin m.number) m).2.2 = true
    · rw [if_pos hx] at hd
      rw [hn] at hx
      obtain ⟨d1, d2⟩ := s2 hx
      refine ⟨fun d hm => ?_, fun d hm => ?_, fun o k hm => ?_, ?_⟩
      · rw [hd] at hm
        rcases List.mem_append.1 hm with hm | hm
        · obtain ⟨a1, a2, a3, a4⟩ := h.dn d hm
          exact ⟨a1, a2, a3, Nat.le_trans a4 (cle _ _ _)⟩
        · simp at hm; subst hm
          exact ⟨v4, v5, v6, by rw [same, hn]; exact d2⟩
      · rw [hd] at hm
        rcases List.mem_append.1 hm with hm | hm
        · exact dle _ _ (h.dt d hm)
        · simp at hm; subst hm
          rw [same, s1, hn, hx]; simp
      · by_cases e : m.origin = o ∧ m.number = k
        · obtain ⟨rfl, rfl⟩ := e
          exact ⟨m.payload, by rw [hd]; simp⟩
        · rw [oth e] at hm
          obtain ⟨t, ht⟩ := h.dl o k hm
          exact ⟨t, by rw [hd]; exact List.mem_append_left _ ht⟩
      · rw [hd, List.map_append, List.nodup_append]
        refine ⟨h.dd, by simp, fun a ha b hb => ?_⟩
        simp at hb
        subst hb
        obtain ⟨d, hdm, rfl⟩ := List.mem_map.1 ha
        intro e
        simp at e
        have := h.dt d hdm
        rw [e.1, e.2, d1] at this
        cases this
    · rw [if_neg hx] at hd
      have hx' := Bool.eq_false_iff.2 hx
      refine ⟨fun d hm => ?_, fun d hm => ?_, fun o k hm => ?_, by rw [hd]; exact h.dd⟩
      · rw [hd] at hm
        obtain ⟨a1, a2, a3, a4⟩ := h.dn d hm
        exact ⟨a1, a2, a3, Nat.le_trans a4 (cle _ _ _)⟩
      · rw [hd] at hm
        exact dle _ _ (h.dt d hm)
      · rw [hd]
        by_cases e : m.origin = o ∧ m.number = k
        · obtain ⟨rfl, rfl⟩ := e
          rw [same, s1, hx', Bool.or_false] at hm
          exact h.dl _ _ hm
        · rw [oth e] at hm
          exact h.dl o k hm
/-! ### the group -/
def isHon (n : Nat) (liar : Nat → Bool) (j : Nat) : Bool := decide (j < n) && !liar j
theorem isHon_iff {n : Nat} {liar : Nat → Bool} {j : Nat} : isHon n liar j = true ↔ j < n ∧ liar j = false := by simp [isHon]
theorem hon_few {n : Nat} {liar : Nat → Bool} (h : (bads n liar).length ≤ faults n) : cnt (fun j => !isHon n liar j) n ≤ faults n := by
  refine Nat.le_trans (cnt_mono (q := liar) fun i hi hp => ?_) (by rw [← cnt_filter]; exact h)
  simpa [isHon, hi] using hp
def seen (s : Grp) : Seen := fun i o k => match (s.all[i]?).join with
  | some p => look p.casts o k
  | none => fresh o k
theorem seen_at {s : Grp} {i : Nat} {p : Proc} (h : s.all[i]? = some (some p)) (o k : Int) : seen s i o k = look p.casts o k := by
  unfold seen; rw [h]; rfl
structure Hold (n : Nat) (liar : Nat → Bool) (s : Grp) : Prop where
  all : s.all.length = n
  casts : s.casts.length = n
  hon : ∀ i, i < n → liar i = false → ∃ p, s.all[i]? = some (some p)
  proc : ∀ (i : Nat) (p : Proc), s.all[i]? = some (some p) → liar i = false ∧ p.n = n ∧ p.self = i ∧ p.own = (s.casts.getD i []).length ∧ Dn n p ∧ ∀ o k, Loc n (look p.casts o k)
  inv : ∃ E R, (∀ j o k t, E j o k = some t → isHon n liar j = true) ∧ (∀ j o k t, R j o k = some t → isHon n liar j = true) ∧ Inv n (isHon n liar) E R (seen s) (fun i => s.casts.getD i []) (fun m => m ∈ s.pending)
theorem look_nil (o k : Int) : look [] o k = fresh o k := rfl
theorem Hold.start (n : Nat) (liar : Nat → Bool) : Hold n liar (Grp.start n liar) := by
  have hget : ∀ i, i < n → (Grp.start n liar).all[i]? = some (if liar i then none else some (Bra.start n i)) := fun i hi => by simp [Grp.start, hi]
  have hcast : ∀ i, (Grp.start n liar).casts.getD i [] = [] := fun i => by
    show ((List.range n).map fun _ => ([] : List (List UInt8))).getD i [] = []
    rw [List.getD_eq_getElem?_getD, List.getElem?_map]
    by_cases hi : i < n <;> simp [hi]
  have hseen : ∀ i o k, seen (Grp.start n liar) i o k = fresh o k := fun i o k => by
    unfold seen
    by_cases hi : i < n
    · rw [hget i hi]
      by_cases hl : liar i = true
      · rw [if_pos hl]; rfl
      · rw [if_neg hl]; rfl
    · rw [List.getElem?_eq_none (by simp [Grp.start]; omega)]; rfl
  have hat : ∀ i p, (Grp.start n liar).all[i]? = some (some p) → i < n ∧ liar i = false ∧ p = Bra.start n i := fun i p hp => by
    have hi : i < n := by have := (List.getElem?_eq_some_iff.1 hp).1; simpa [Grp.start] using this
    rw [hget i hi] at hp
    by_cases hl : liar i = true
    · rw [if_pos hl] at hp; cases hp
    · rw [if_neg hl] at hp; cases hp; exact ⟨hi, by simpa using hl, rfl⟩
  refine ⟨by simp [Grp.start], by simp [Grp.start], fun i hi hl => ⟨Bra.start n i, by rw [hget i hi, hl]; rfl⟩, fun i p hp => ?_, fun _ _ _ => none, fun _ _ _ => none, fun _ _ _ _ h => by simp at h, fun _ _ _ _ h => by simp at h, ?_⟩
  · obtain ⟨hi, hl, rfl⟩ := hat i p hp
    exact ⟨hl, rfl, rfl, by rw [hcast]; rfl, dn_start n i, fun o k => loc_fresh n o k⟩
  · refine ⟨fun j o k _ => by rw [hseen]; rfl, fun j o k _ => by rw [hseen]; rfl, fun m hm => by simp [Grp.start] at hm, fun i o k x _ hx => by rw [hseen] at hx; simp [fresh] at hx, fun i o k x _ hx => by rw [hseen] at hx; simp [fresh] at hx,
      fun j o k t h => by simp at h, fun j o k t h => by simp at h, fun j o k t i h => by simp at h, fun j o k t i h => by simp at h, fun o x t i _ h => by simp only [hcast] at h; simp at h⟩
theorem goes_of {g : Grp} {x : Pkt} {j : Nat} {q : Proc} (hx : x.to = (j : Int)) (hj : g.all[j]? = some (some q)) : g.goes x = true := by
  unfold Grp.goes
  rw [at_of (t := x.to) (p := q) (by omega) (by rw [hx]; exact hj)]
  rfl
theorem put_same {s : Grp} {i : Nat} {p : Proc} (h : s.all[i]? = some (some p)) : s.put i p = s := by
  unfold Grp.put
  have : s.all.set i (some p) = s.all := by
    obtain ⟨hl, hx⟩ := List.getElem?_eq_some_iff.1 h
    rw [← hx]; exact List.set_getElem_self hl
  rw [this]
theorem put_at {s : Grp} {i : Nat} {p q : Proc} (h : s.all[i]? = some (some p)) : (s.put i q).all[i]? = some (some q) := by
  unfold Grp.put
  show (s.all.set i (some q))[i]? = _
  rw [List.getElem?_set, if_pos rfl, if_pos (List.getElem?_eq_some_iff.1 h).1]
theorem put_ne {s : Grp} {i j : Nat} {q : Proc} (h : i ≠ j) : (s.put i q).all[j]? = s.all[j]? := List.getElem?_set_ne h
theorem Hold.hat {n : Nat} {liar : Nat → Bool} {s : Grp} (h : Hold n liar s) {i : Nat} {p : Proc} (hp : s.all[i]? = some (some p)) : isHon n liar i = true :=
  isHon_iff.2 ⟨by rw [← h.all]; exact (List.getElem?_eq_some_iff.1 hp).1, (h.proc i p hp).1⟩
theorem Hold.loc {n : Nat} {liar : Nat → Bool} {s : Grp} (h : Hold n liar s) (i : Nat) (o k : Int) : Loc n (seen s i o k) := by
  unfold seen
  cases hx : s.all[i]? with
  | none => exact loc_fresh n o k
  | some x => cases x with
    | none => exact loc_fresh n o k
    | some p => exact (h.proc i p hx).2.2.2.2.2 o k
theorem seen_put {s : Grp} {i : Nat} {p : Proc} {m : Pkt} (hp : s.all[i]? = some (some p)) (hv : valid p.n p.self m = true) (l : List Pkt) : seen ((s.put i (recv p m).1).send l) = setC (seen s) i m.origin m.number (step p.n (look p.casts m.origin m.number) m).1 := by
  funext i' o' k'
  by_cases hi : i' = i
  · subst hi
    rw [seen_at (s := (s.put i' (recv p m).1).send l) (p := (recv p m).1) (put_at hp), recv_upd hv]
    by_cases e : m.origin = o' ∧ m.number = k'
    · obtain ⟨rfl, rfl⟩ := e
      rw [look_upd_same (step_is (look_is _ _ _)), setC_same]
    · rw [look_upd_other (step_is (look_is _ _ _)) e, setC_other (fun h => e ⟨h.2.1.symm, h.2.2.symm⟩), seen_at hp]
  · rw [setC_other (fun h => hi h.1)]
    unfold seen
    rw [show ((s.put i (recv p m).1).send l).all[i']? = s.all[i']? from put_ne (fun e => hi e.symm)]
theorem Hold.receive {n : Nat} {liar : Nat → Bool} {s : Grp} (h : Hold n liar s) (hf : (bads n liar).length ≤ faults n) {m : Pkt} (hg : ∀ j : Nat, m.src = j → isHon n liar j = true → m ∈ s.pending) : Hold n liar (s.receive m) := by
  unfold Grp.receive
  cases hm : s.at_ m.to with
  | none => exact h
  | some p =>
    obtain ⟨h0, hp⟩ := at_some hm
    obtain ⟨hl, pn, ps, po, pd, pl⟩ := h.proc _ p hp
    cases hv : valid p.n p.self m with
    | false =>
      dsimp only
      rw [recv_bad hv, put_same hp, send_nil]
      exact h
    | true =>
      obtain ⟨i, hi⟩ : ∃ i, m.to.toNat = i := ⟨_, rfl⟩
      simp only [hi] at hp ps po hl ⊢
      obtain ⟨E, R, hE, hR, hI⟩ := h.inv
      have hH := h.hat hp
      have hv2 : valid n i m = true := by rw [← pn, ← ps]; exact hv
      have hse : seen s i m.origin m.number = look p.casts m.origin m.number := seen_at hp _ _
      have hsend : (recv p m).2 = if (step n (look p.casts m.origin m.number) m).2.1 then Bra.all n i (reply m.kind) m.origin m.number m.payload else [] := by rw [recv_valid hv rfl, pn, ps]
      obtain ⟨E', R', hI', hE', hR'⟩ := hI.recv (P' := fun x => x ∈ s.pending ++ ((recv p m).2).filter (s.put i (recv p m).1).goes) (fun j hj => (isHon_iff.1 hj).1) (hon_few hf) hE hR hH (by rw [hse]; exact pl _ _) hv2
        (fun j hj hHj => (hI.pk m (hg j hj hHj) j hj hHj).2) (fun x hx => List.mem_append_left _ hx) (fun x hx => by
          rcases List.mem_append.1 hx with hx | hx
          · exact .inl hx
          · have hx := (List.mem_filter.1 hx).1
            rw [hsend] at hx
            rw [hse]
            by_cases hb : (step n (look p.casts m.origin m.number) m).2.1 = true
            · rw [if_pos hb] at hx; exact .inr ⟨hb, hx⟩
            · rw [if_neg hb] at hx; cases hx) (fun hb x j hx hxj hj => by
          rw [hse] at hb
          refine List.mem_append_right _ (List.mem_filter.2 ⟨by rw [hsend, if_pos hb]; exact hx, ?_⟩)
          by_cases e : i = j
          · subst e; exact goes_of hxj (put_at hp)
          · obtain ⟨q, hq⟩ := h.hon j (isHon_iff.1 hj).1 (isHon_iff.1 hj).2
            exact goes_of hxj (by rw [put_ne e]; exact hq))
      refine ⟨by simp [Grp.send, Grp.put, h.all], h.casts, fun j hj hlj => ?_, fun j q hq => ?_, E', R', hE', hR', ?_⟩
      · by_cases e : i = j
        · subst e; exact ⟨_, put_at hp⟩
        · obtain ⟨q, hq⟩ := h.hon j hj hlj
          exact ⟨q, by show (s.put i _).all[j]? = _; rw [put_ne e]; exact hq⟩
      · have hq' : (s.put i (recv p m).1).all[j]? = some (some q) := hq
        rcases put_get hq' with ⟨rfl, rfl⟩ | ⟨hne, hq'⟩
        · obtain ⟨r1, r2, r3⟩ := recv_n p m
          refine ⟨hl, by rw [r1, pn], by rw [r2, ps], by rw [r3]; exact po, pd.recv pn m, fun o k => ?_⟩
          rw [recv_upd hv]
          simp [valid] at hv2
          by_cases e : m.origin = o ∧ m.number = k
          · obtain ⟨rfl, rfl⟩ := e
            rw [look_upd_same (step_is (look_is _ _ _)), pn]
            exact (pl _ _).step ⟨by omega, by omega⟩
          · rw [look_upd_other (step_is (look_is _ _ _)) e]; exact pl o k
        · exact h.proc j q hq'
      · rw [seen_put hp hv, pn]
        rw [hse] at hI'
        exact hI'
theorem mem_erase {l : List Pkt} {k : Nat} {m x : Pkt} (hk : l[k]? = some m) (hx : x ∈ l) : x ∈ l.eraseIdx k ∨ x = m := by
  obtain ⟨j, hj⟩ := List.mem_iff_getElem?.1 hx
  by_cases e : j = k
  · subst e; rw [hk] at hj; cases hj; exact .inr rfl
  · exact .inl (List.mem_eraseIdx_iff_getElem?.2 ⟨j, e, hj⟩)
theorem receive_erase {s : Grp} {m : Pkt} {k : Nat} (hk : k < s.pending.length) : ({ s with pending := s.pending.eraseIdx k } : Grp).receive m = { s.receive m with pending := (s.receive m).pending.eraseIdx k } := by
  unfold Grp.receive
  have ha : ({ s with pending := s.pending.eraseIdx k } : Grp).at_ m.to = s.at_ m.to := rfl
  rw [ha]
  cases hm : s.at_ m.to with
  | none => rfl
  | some p =>
    show (⟨_, _, _⟩ : Grp) = ⟨_, _, _⟩
    congr 1
    show s.pending.eraseIdx k ++ _ = (s.pending ++ _).eraseIdx k
    rw [List.eraseIdx_append_of_lt_length hk]
    rfl
theorem Hold.take {n : Nat} {liar : Nat → Bool} {s : Grp} (h : Hold n liar s) (hf : (bads n liar).length ≤ faults n) {m : Pkt} {k : Nat} (hk : s.pending[k]? = some m) : Hold n liar (({ s with pending := s.pending.eraseIdx k } : Grp).receive m) := by
  have hmem : m ∈ s.pending := List.mem_of_getElem? hk
  have h1 := h.receive hf (m := m) (fun _ _ _ => hmem)
  obtain ⟨hkl, -⟩ := List.getElem?_eq_some_iff.1 hk
  rw [receive_erase hkl]
  obtain ⟨E, R, hE, hR, hI⟩ := h1.inv
  have hpend : ∀ x, x ∈ s.pending → x ∈ (s.receive m).pending := fun x hx => by
    unfold Grp.receive
    cases s.at_ m.to with
    | none => exact hx
    | some p => exact List.mem_append_left _ hx
  have hk2 : (s.receive m).pending[k]? = some m := by
    unfold Grp.receive
    cases s.at_ m.to with
    | none => exact hk
    | some p =>
      show (s.pending ++ _)[k]? = _
      rw [List.getElem?_append_left hkl]; exact hk
  refine ⟨h1.all, h1.casts, h1.hon, h1.proc, E, R, hE, hR, ?_⟩
  refine hI.less (fun x hx => List.mem_of_mem_eraseIdx hx) (fun x hx => ?_) hE hR
  rcases mem_erase hk2 hx with hx | rfl
  · exact .inl hx
  · by_cases hs : ∃ j : Nat, x.src = j ∧ isHon n liar j = true
    · obtain ⟨j, hj, hHj⟩ := hs
      by_cases ht : ∃ i : Nat, x.to = i ∧ isHon n liar i = true
      · obtain ⟨i, hi, hHi⟩ := ht
        right; left
        obtain ⟨E0, R0, -, -, hI0⟩ := h.inv
        obtain ⟨hv, -⟩ := hI0.pk x hmem j hj hHj
        obtain ⟨p, hp⟩ := h.hon i (isHon_iff.1 hHi).1 (isHon_iff.1 hHi).2
        obtain ⟨-, pn, ps, -⟩ := h.proc i p hp
        have hti : x.to.toNat = i := by omega
        rw [hti] at hv
        have hvp : valid p.n p.self x = true := by rw [pn, ps]; exact hv
        have hat : s.at_ x.to = some p := at_of (by omega) (by rw [hti]; exact hp)
        have hsn : seen (s.receive x) i x.origin x.number = (step p.n (look p.casts x.origin x.number) x).1 := by
          unfold Grp.receive
          rw [hat]
          dsimp only
          rw [hti, seen_put hp hvp, setC_same]
        have hsp := spent_step p.n (look p.casts x.origin x.number) x
        rw [← hsn] at hsp
        obtain ⟨-, q1, q2, q3⟩ := hI.pk x (hpend x hmem) j hj hHj
        unfold Used
        rw [hti]
        unfold spent at hsp
        refine ⟨fun e => ?_, fun e => ?_, fun e => ?_⟩
        · rw [if_pos e] at hsp; exact hsp
        · rw [if_neg (by omega), if_pos e] at hsp
          obtain ⟨y, hy, e1⟩ := List.any_eq_true.1 hsp
          have e1 : y.1 = x.src := by simpa using e1
          have := hI.ve i _ _ y hHi hy j (e1.trans hj) hHj
          rw [q2 e] at this
          have e2 := Option.some.inj this
          rw [← e1, e2]; exact hy
        · rw [if_neg (by omega), if_neg (by omega)] at hsp
          obtain ⟨y, hy, e1⟩ := List.any_eq_true.1 hsp
          have e1 : y.1 = x.src := by simpa using e1
          have := hI.vr i _ _ y hHi hy j (e1.trans hj) hHj
          rw [q3 e] at this
          have e2 := Option.some.inj this
          rw [← e1, e2]; exact hy
      · right; right; right
        exact fun i hi => Bool.eq_false_iff.2 fun hx => ht ⟨i, hi, hx⟩
    · right; right; left
      exact fun j hj => Bool.eq_false_iff.2 fun hx => hs ⟨j, hj, hx⟩
theorem Hold.say {n : Nat} {liar : Nat → Bool} {s : Grp} (h : Hold n liar s) (k : Nat) (t : List UInt8) : Hold n liar (s.say k t) := by
  unfold Grp.say
  cases hm : (s.all[k]?).join with
  | none => exact h
  | some p =>
    have hp : s.all[k]? = some (some p) := by
      cases hx : s.all[k]? with
      | none => rw [hx] at hm; cases hm
      | some o => rw [hx] at hm; cases o with
        | none => cases hm
        | some q => simp [Option.join] at hm; rw [hm]
    dsimp only
    split
    · obtain ⟨hl, pn, ps, po, pd, pl⟩ := h.proc _ p hp
      obtain ⟨E, R, hE, hR, hI⟩ := h.inv
      have hkn : k < n := by rw [← h.all]; exact (List.getElem?_eq_some_iff.1 hp).1
      have hB : (fun i => (s.casts.set k (s.casts.getD k [] ++ [t])).getD i []) = fun j => if j = k then s.casts.getD k [] ++ [t] else s.casts.getD j [] := by
        funext i
        by_cases e : i = k
        · subst e
          rw [if_pos rfl, List.getD_eq_getElem?_getD, List.getElem?_set, if_pos rfl, if_pos (by rw [h.casts]; exact hkn)]; rfl
        · rw [if_neg e, List.getD_eq_getElem?_getD, List.getElem?_set_ne (fun x => e x.symm), ← List.getD_eq_getElem?_getD]
      have hsnd : (bcast p t).2 = Bra.all n k 1 k (((s.casts.getD k []).length + 1 : Nat) : Int) t := by unfold bcast; dsimp only; rw [pn, ps, po]
      have hsee : seen (({ s.put k (bcast p t).1 with casts := s.casts.set k (s.casts.getD k [] ++ [t]) } : Grp).send (bcast p t).2) = seen s := by
        funext i o c
        by_cases e : i = k
        · subst e
          rw [seen_at hp, seen_at (s := (({ s.put i (bcast p t).1 with casts := s.casts.set i (s.casts.getD i [] ++ [t]) } : Grp).send (bcast p t).2)) (p := (bcast p t).1) (put_at hp)]
          rfl
        · unfold seen
          rw [show (({ s.put k (bcast p t).1 with casts := s.casts.set k (s.casts.getD k [] ++ [t]) } : Grp).send (bcast p t).2).all[i]? = s.all[i]? from put_ne (fun x => e x.symm)]
      refine ⟨by simp [Grp.send, Grp.put, h.all], by simp [Grp.send, h.casts], fun j hj hlj => ?_, fun j q hq => ?_, E, R, hE, hR, ?_⟩
      · by_cases e : k = j
        · subst e; exact ⟨_, put_at hp⟩
        · obtain ⟨q, hq⟩ := h.hon j hj hlj
          exact ⟨q, by show (s.put k _).all[j]? = _; rw [put_ne e]; exact hq⟩
      · have hq' : (s.put k (bcast p t).1).all[j]? = some (some q) := hq
        have hBj := congrFun hB j
        rcases put_get hq' with ⟨rfl, rfl⟩ | ⟨hne, hq'⟩
        · refine ⟨hl, pn, ps, ?_, ⟨pd.dn, pd.dt, pd.dl, pd.dd⟩, pl⟩
          show p.own + 1 = ((s.casts.set j (s.casts.getD j [] ++ [t])).getD j []).length
          rw [hBj, if_pos rfl, List.length_append, po]; rfl
        · obtain ⟨a1, a2, a3, a4, a5⟩ := h.proc j q hq'
          refine ⟨a1, a2, a3, ?_, a5⟩
          show q.own = ((s.casts.set k (s.casts.getD k [] ++ [t])).getD j []).length
          rw [hBj, if_neg hne, a4]
      · rw [hsee]
        show Inv n _ E R (seen s) (fun i => (s.casts.set k (s.casts.getD k [] ++ [t])).getD i []) (fun m => m ∈ s.pending ++ (bcast p t).2.filter _)
        rw [hB]
        refine hI.cast (fun j hj => (isHon_iff.1 hj).1) (h.hat hp) (fun x hx => List.mem_append_left _ hx) (fun x hx => ?_) (fun x j hx hxj hj => ?_)
        · rcases List.mem_append.1 hx with hx | hx
          · exact .inl hx
          · have hx := (List.mem_filter.1 hx).1
            rw [hsnd] at hx
            exact .inr hx
        · refine List.mem_append_right _ (List.mem_filter.2 ⟨by rw [hsnd]; exact hx, ?_⟩)
          by_cases e : k = j
          · subst e; exact goes_of hxj (put_at hp)
          · obtain ⟨q, hq⟩ := h.hon j (isHon_iff.1 hj).1 (isHon_iff.1 hj).2
            exact goes_of hxj (by show (s.put k _).all[j]? = _; rw [put_ne e]; exact hq)
    · exact h
theorem Hold.between {n : Nat} {liar : Nat → Bool} {s : Grp} (h : Hold n liar s) {m : Pkt} (hm : ∀ j : Nat, m.src = j → isHon n liar j = false) : Hold n liar (s.send [m]) := by
  obtain ⟨E, R, hE, hR, hI⟩ := h.inv
  refine ⟨h.all, h.casts, h.hon, h.proc, E, R, hE, hR, ?_⟩
  refine hI.more (fun x hx => List.mem_append_left _ hx) (fun x hx => ?_)
  rcases List.mem_append.1 hx with hx | hx
  · exact .inl hx
  · have := (List.mem_filter.1 hx).1
    simp at this
    subst this
    exact .inr hm
theorem Hold.act {n : Nat} {liar : Nat → Bool} {s : Grp} (h : Hold n liar s) (hf : (bads n liar).length ≤ faults n) (x : Act) : Hold n liar (s.act n (bads n liar) x) := by
  unfold Grp.act
  split
  · exact h.say _ _
  · split
    · split
      · exact h
      · rename_i m hm
        split
        · exact h.take hf hm
        · exact h.receive hf (fun _ _ _ => List.mem_of_getElem? hm)
    · split
      · split
        · exact h
        · rename_i b hb
          have hbl : ∀ j : Nat, ((b : Nat) : Int) = j → isHon n liar j = false := fun j hj => by
            have hb' := (List.mem_filter.1 (List.mem_of_getElem? hb)).2
            have : b = j := by omega
            subst this
            simp [isHon, hb']
          split
          · exact h.receive hf (fun j hj hHj => by rw [hbl j hj] at hHj; cases hHj)
          · exact h.between hbl
      · exact h
theorem Hold.run {n : Nat} {liar : Nat → Bool} (hf : (bads n liar).length ≤ faults n) (xs : List Act) : Hold n liar (xs.foldl (Grp.act n (bads n liar)) (Grp.start n liar)) := by
  have : ∀ s, Hold n liar s → Hold n liar (xs.foldl (Grp.act n (bads n liar)) s) := by
    induction xs with
    | nil => exact fun s h => h
    | cons x xs ih => exact fun s h => ih _ (h.act hf x)
  exact this _ (Hold.start n liar)
/-! ### what follows -/
structure Agree (s : Grp) : Prop where
  rng : ∀ (i : Nat) (p : Proc) (d : Del), s.all[i]? = some (some p) → d ∈ p.done → 0 ≤ d.origin ∧ d.origin < (s.all.length : Int) ∧ 1 ≤ d.number
  cast : ∀ (i : Nat) (p : Proc) (d : Del) (q : Proc), s.all[i]? = some (some p) → d ∈ p.done → s.all[d.origin.toNat]? = some (some q) → (s.casts.getD d.origin.toNat [])[(d.number - 1).toNat]? = some d.payload
  same : ∀ (i j : Nat) (p q : Proc) (d e : Del), s.all[i]? = some (some p) → s.all[j]? = some (some q) → d ∈ p.done → e ∈ q.done → d.origin = e.origin → d.number = e.number → d.payload = e.payload
  once : ∀ (i : Nat) (p : Proc), s.all[i]? = some (some p) → ((Proc.done p).map fun d => (d.origin, d.number)).Nodup
theorem Hold.agree {n : Nat} {liar : Nat → Bool} {s : Grp} (h : Hold n liar s) (h1 : 1 ≤ n) (hf : (bads n liar).length ≤ faults n) : Agree s := by
  obtain ⟨E, R, hE, hR, hI⟩ := h.inv
  have hc := hon_few hf
  refine ⟨fun i p d hp hd => ?_, fun i p d q hp hd hq => ?_, fun i j p q d e hp hq hd he h1 h2 => ?_, fun i p hp => (h.proc i p hp).2.2.2.2.1.dd⟩
  · obtain ⟨a1, a2, a3, -⟩ := (h.proc i p hp).2.2.2.2.1.dn d hd
    exact ⟨a1, by rw [h.all]; exact a2, a3⟩
  · obtain ⟨a1, a2, a3, a4⟩ := (h.proc i p hp).2.2.2.2.1.dn d hd
    rw [← seen_at hp] at a4
    have ho : d.origin = ((d.origin.toNat : Nat) : Int) := (Int.toNat_of_nonneg a1).symm
    rw [ho] at a4
    exact del_cast hI h1 hc h.loc (h.hat hp) (h.hat hq) a4
  · obtain ⟨-, -, -, a4⟩ := (h.proc i p hp).2.2.2.2.1.dn d hd
    obtain ⟨-, -, -, b4⟩ := (h.proc j q hq).2.2.2.2.1.dn e he
    rw [← seen_at hp] at a4
    rw [← seen_at hq, ← h1, ← h2] at b4
    exact del_same hI hc h.loc (h.hat hp) (h.hat hq) a4 b4
section
variable {n : Nat} {H : Nat → Bool} {E R : Told} {C : Seen} {B : Nat → List (List UInt8)}
theorem quiet_ready (h : Inv n H E R C B (fun _ => False)) (h1 : 1 ≤ n) (hf : cnt (fun j => !H j) n ≤ faults n) {o k : Int} {t : List UInt8} (hr : ∀ j, H j = true → R j o k = some t) {i : Nat} (hi : H i = true) : 2 * faults n + 1 ≤ count (C i o k).readies t := by
  have h3 := faults_lt h1
  have e1 := cnt_not H n
  have e2 : cnt H n ≤ cnt (has (C i o k).readies t) n := cnt_mono fun j _ hj => has_iff.2 ((h.lr j o k t i (hr j hj) hi).resolve_left id)
  have e3 := cnt_count n t (C i o k).readies
  omega
theorem quiet_cast (h : Inv n H E R C B (fun _ => False)) (h1 : 1 ≤ n) (hf : cnt (fun j => !H j) n ≤ faults n) (hl : ∀ i o k, Loc n (C i o k)) {o x : Nat} {t : List UInt8} (ho : H o = true) (hx : (B o)[x]? = some t) {i : Nat} (hi : H i = true) : 2 * faults n + 1 ≤ count (C i o ((x + 1 : Nat) : Int)).readies t := by
  have h3 := faults_lt h1
  have hE : ∀ j, H j = true → E j o ((x + 1 : Nat) : Int) = some t := fun j hj => by
    have a1 := (h.li o x t j ho hx hj).resolve_left id
    rw [h.ech j _ _ hj] at a1
    obtain ⟨s, hs⟩ := Option.isSome_iff_exists.1 a1
    have := h.eo j _ _ s hs o rfl ho
    rw [show ((((x + 1 : Nat) : Int) - 1).toNat) = x by omega, hx] at this
    rw [hs]; exact this.symm
  have hq : ∀ j, H j = true → n + faults n < 2 * count (C j o ((x + 1 : Nat) : Int)).echoes t := fun j hj => by
    have e1 := cnt_not H n
    have e2 : cnt H n ≤ cnt (has (C j o ((x + 1 : Nat) : Int)).echoes t) n := cnt_mono fun j' _ hj' => has_iff.2 ((h.le j' _ _ t j (hE j' hj') hj).resolve_left id)
    have e3 := cnt_count n t (C j o ((x + 1 : Nat) : Int)).echoes
    omega
  refine quiet_ready h h1 hf (fun j hj => ?_) hi
  have a1 := (hl j o ((x + 1 : Nat) : Int)).te t (hq j hj)
  rw [h.rdy j _ _ hj] at a1
  obtain ⟨s, hs⟩ := Option.isSome_iff_exists.1 a1
  obtain ⟨i', b1, b2⟩ := h.rq j _ _ s hs
  rw [hs, echoes_same h hf hl b1 hi b2 (hq i hi)]
theorem quiet_del (h : Inv n H E R C B (fun _ => False)) (h1 : 1 ≤ n) (hf : cnt (fun j => !H j) n ≤ faults n) (hl : ∀ i o k, Loc n (C i o k)) {o k : Int} {t : List UInt8} {i : Nat} (hi : H i = true) (hc : 2 * faults n + 1 ≤ count (C i o k).readies t) {i' : Nat} (hi' : H i' = true) : 2 * faults n + 1 ≤ count (C i' o k).readies t := by
  have c1 := count_cnt t (hl i o k).nr (hl i o k).rr
  have c2 : cnt (has (C i o k).readies t) n ≤ cnt (fun j => H j && has (C i o k).readies t j) n + cnt (fun j => !H j) n := Nat.le_trans (cnt_mono fun j _ hj => by
    show ((H j && has (C i o k).readies t j) || !H j) = true
    rw [hj]; cases H j <;> rfl) (cnt_or _ _ n)
  have hR : ∀ j, (H j && has (C i o k).readies t j) = true → R j o k = some t := fun j hj => by
    rw [Bool.and_eq_true] at hj
    exact h.vr i o k _ hi (has_iff.1 hj.2) j rfl hj.1
  have hone : ∃ j, R j o k = some t := by
    obtain ⟨j, -, hj, -⟩ := cnt_ex (p := fun j => H j && has (C i o k).readies t j) (b := fun _ => false) (n := n) (by rw [cnt_no]; omega)
    exact ⟨j, hR j hj⟩
  obtain ⟨j0, hj0⟩ := hone
  refine quiet_ready h h1 hf (fun j hj => ?_) hi'
  have d1 : cnt (fun j => H j && has (C i o k).readies t j) n ≤ cnt (has (C j o k).readies t) n := cnt_mono fun j' _ hj' => has_iff.2 ((h.lr j' o k t j (hR j' hj') hj).resolve_left id)
  have d2 := cnt_count n t (C j o k).readies
  have a1 := (hl j o k).tr t (by omega)
  rw [h.rdy j _ _ hj] at a1
  obtain ⟨s, hs⟩ := Option.isSome_iff_exists.1 a1
  rw [hs, ready_same h hf hl hs hj0]
end
theorem Hold.done_of {n : Nat} {liar : Nat → Bool} {s : Grp} (h : Hold n liar s) (hf : (bads n liar).length ≤ faults n) {i : Nat} {p : Proc} (hp : s.all[i]? = some (some p)) {o k : Int} {t : List UInt8} (hc : 2 * faults n + 1 ≤ count (seen s i o k).readies t) : (⟨o, k, t⟩ : Del) ∈ p.done := by
  obtain ⟨E, R, hE, hR, hI⟩ := h.inv
  have hd := (h.loc i o k).td t hc
  have hDn := (h.proc i p hp).2.2.2.2.1
  rw [seen_at hp] at hd
  obtain ⟨t', ht'⟩ := hDn.dl o k hd
  have h4 := (hDn.dn _ ht').2.2.2
  rw [← seen_at hp] at h4
  have := del_same hI (hon_few hf) h.loc (h.hat hp) (h.hat hp) hc h4
  rw [this]; exact ht'
theorem quiet_inv {n : Nat} {H : Nat → Bool} {E R : Told} {C : Seen} {B : Nat → List (List UInt8)} {l : List Pkt} (h : Inv n H E R C B (fun m => m ∈ l)) (hl : l = []) : Inv n H E R C B (fun _ => False) := by
  subst hl
  exact h.more (fun x hx => by cases hx) (fun x hx => hx.elim)
/-- All have delivered what the honest have broadcast. -/
theorem Hold.total_cast {n : Nat} {liar : Nat → Bool} {s : Grp} (h : Hold n liar s) (h1 : 1 ≤ n) (hf : (bads n liar).length ≤ faults n) (hq : s.pending = []) {o x : Nat} {t : List UInt8} {q : Proc} (ho : s.all[o]? = some (some q)) (hx : (s.casts.getD o [])[x]? = some t) {i : Nat} {p : Proc} (hp : s.all[i]? = some (some p)) : (⟨(o : Int), ((x + 1 : Nat) : Int), t⟩ : Del) ∈ p.done := by
  obtain ⟨E, R, hE, hR, hI⟩ := h.inv
  exact h.done_of hf hp (quiet_cast (quiet_inv hI hq) h1 (hon_few hf) h.loc (h.hat ho) hx (h.hat hp))
/-- All have delivered what one has delivered. -/
theorem Hold.total_del {n : Nat} {liar : Nat → Bool} {s : Grp} (h : Hold n liar s) (h1 : 1 ≤ n) (hf : (bads n liar).length ≤ faults n) (hq : s.pending = []) {i j : Nat} {p q : Proc} {d : Del} (hp : s.all[i]? = some (some p)) (hd : d ∈ p.done) (hj : s.all[j]? = some (some q)) : d ∈ q.done := by
  obtain ⟨E, R, hE, hR, hI⟩ := h.inv
  have h4 := ((h.proc i p hp).2.2.2.2.1.dn d hd).2.2.2
  rw [← seen_at hp] at h4
  exact h.done_of hf hj (quiet_del (quiet_inv hI hq) h1 (hon_few hf) h.loc (h.hat hp) h4 (h.hat hj))
end Bra

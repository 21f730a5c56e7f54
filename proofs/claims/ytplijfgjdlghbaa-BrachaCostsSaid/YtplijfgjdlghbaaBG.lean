/-
  A group of processes of which some lie, as plain functions on lists.
-/
import Derived.Test.YtplijfgjdlghbaaBLaw1
namespace Bra
structure Grp where
  all : List (Option Proc)
  pending : List Pkt
  casts : List (List (List UInt8))
def Grp.at_ (g : Grp) (t : Int) : Option Proc := if 0 ≤ t then (g.all[t.toNat]?).join else none
def Grp.goes (g : Grp) (m : Pkt) : Bool := (g.at_ m.to).isSome
def Grp.send (g : Grp) (l : List Pkt) : Grp := { g with pending := g.pending ++ l.filter g.goes }
def Grp.put (g : Grp) (j : Nat) (p : Proc) : Grp := { g with all := g.all.set j (some p) }
def Grp.receive (g : Grp) (m : Pkt) : Grp := match g.at_ m.to with
  | none => g
  | some p => (g.put m.to.toNat (recv p m).1).send (recv p m).2
/-- The k-th process broadcasts. -/
def Grp.say (g : Grp) (k : Nat) (s : List UInt8) : Grp := match (g.all[k]?).join with
  | none => g
  | some p => if (g.casts.getD k []).length < 3 then
      ({ g.put k (bcast p s).1 with casts := g.casts.set k (g.casts.getD k [] ++ [s]) } : Grp).send (bcast p s).2 else g
structure Act where
  kind : Int
  pick : Int
  p : Pkt
def modn (i : Int) (n : Nat) : Nat := (i % (n : Int)).toNat
def Grp.act (n : Nat) (bad : List Nat) (g : Grp) (x : Act) : Grp :=
  if x.kind = 0 then g.say (modn x.pick n) x.p.payload
  else if x.kind = 1 ∨ x.kind = 2 then
    match g.pending[modn x.pick g.pending.length]? with
    | none => g
    | some m => if x.kind = 1 then ({ g with pending := g.pending.eraseIdx (modn x.pick g.pending.length) } : Grp).receive m else g.receive m
  else if x.kind = 3 ∨ x.kind = 4 then
    match bad[modn x.pick bad.length]? with
    | none => g
    | some b => if x.kind = 3 then g.receive { x.p with src := (b : Int), to := (modn x.p.to n : Int) } else g.send [{ x.p with src := (b : Int), to := (modn x.p.to n : Int) }]
  else g
/-- The group at its start. -/
def Grp.start (n : Nat) (liar : Nat → Bool) : Grp := ⟨(List.range n).map fun i => if liar i then none else some (Bra.start n i), [], (List.range n).map fun _ => []⟩
def bads (n : Nat) (liar : Nat → Bool) : List Nat := (List.range n).filter liar
theorem at_some {g : Grp} {t : Int} {p : Proc} (h : g.at_ t = some p) : 0 ≤ t ∧ g.all[t.toNat]? = some (some p) := by
  unfold Grp.at_ at h
  split at h
  · rename_i h0
    refine ⟨h0, ?_⟩
    cases hx : g.all[t.toNat]? with
    | none => rw [hx] at h; cases h
    | some o => rw [hx] at h; cases o with
      | none => cases h
      | some q => simp [Option.join] at h; rw [h]
  · cases h
theorem at_of {g : Grp} {t : Int} {p : Proc} (h0 : 0 ≤ t) (h : g.all[t.toNat]? = some (some p)) : g.at_ t = some p := by
  unfold Grp.at_
  rw [if_pos h0, h]
  rfl
theorem at_no {g : Grp} {t : Int} (h : ¬ 0 ≤ t ∨ g.all.length ≤ t.toNat ∨ g.all[t.toNat]? = some none) : g.at_ t = none := by
  unfold Grp.at_
  split
  · rename_i h0
    rcases h with h | h | h
    · exact absurd h0 h
    · rw [List.getElem?_eq_none h]; rfl
    · rw [h]; rfl
  · rfl
theorem send_nil (g : Grp) : g.send [] = g := by simp [Grp.send]
theorem send_snoc (g : Grp) (l : List Pkt) (m : Pkt) : g.send (l ++ [m]) = if g.goes m then { g.send l with pending := (g.send l).pending ++ [m] } else g.send l := by
  unfold Grp.send
  rw [List.filter_append]
  by_cases h : g.goes m = true
  · rw [if_pos h]; simp [h]
  · rw [if_neg h]; simp [h]
end Bra
namespace Bra
/-- What holds of a group after j acts. -/
structure Fine (n j : Nat) (s : Grp) : Prop where
  all : s.all.length = n
  casts : s.casts.length = n
  pend : s.pending.length ≤ 8 * j
  pkt : ∀ m ∈ s.pending, m.payload.length ≤ 140737488355328 ∧ m.number ≤ 9223372036854775807
  proc : ∀ (k : Nat) p, s.all[k]? = some (some p) → p.n = n ∧ p.self = k ∧ p.done.length ≤ j ∧ p.own ≤ j
theorem Fine.more {n j : Nat} {s : Grp} (h : Fine n j s) : Fine n (j + 1) s := ⟨h.all, h.casts, by have := h.pend; omega, h.pkt, fun k p hk => by have := h.proc k p hk; omega⟩
theorem Fine.start {n : Nat} (liar : Nat → Bool) : Fine n 0 (Grp.start n liar) := by
  refine ⟨by simp [Grp.start], by simp [Grp.start], by simp [Grp.start], fun m hm => (by cases hm), fun k p hk => ?_⟩
  have hkl := (List.getElem?_eq_some_iff.1 hk).1
  have hkn : k < n := by simpa [Grp.start] using hkl
  have : (if liar k then none else some (Bra.start n k)) = some p := by simpa [Grp.start, hkn] using hk
  split at this
  · cases this
  · cases this; exact ⟨rfl, rfl, Nat.le_refl _, Nat.le_refl _⟩
theorem recv_out_le (p : Proc) (m : Pkt) : (recv p m).2.length ≤ p.n := by
  unfold recv
  split
  · dsimp only
    split
    · rw [all_length]; exact Nat.le_refl _
    · exact Nat.zero_le _
  · exact Nat.zero_le _
theorem recv_same {p : Proc} {m x : Pkt} (hx : x ∈ (recv p m).2) : x.payload = m.payload ∧ x.number = m.number := by
  unfold recv at hx
  split at hx
  · dsimp only at hx
    split at hx
    · obtain ⟨j, -, rfl⟩ := List.mem_map.1 hx; exact ⟨rfl, rfl⟩
    · cases hx
  · cases hx
theorem put_get {s : Grp} {k k' : Nat} {p q : Proc} (h : (s.put k p).all[k']? = some (some q)) : (k' = k ∧ q = p) ∨ (k' ≠ k ∧ s.all[k']? = some (some q)) := by
  have h' : (s.all.set k (some p))[k']? = some (some q) := h
  by_cases hk : k = k'
  · subst hk
    rw [List.getElem?_set] at h'
    rw [if_pos rfl] at h'
    split at h'
    · left; exact ⟨rfl, by simpa using h'.symm⟩
    · cases h'
  · rw [List.getElem?_set_ne hk] at h'
    exact .inr ⟨fun e => hk e.symm, h'⟩
theorem Fine.send {n j : Nat} {s : Grp} (h : Fine n j s) {l : List Pkt} (hl : s.pending.length + l.length ≤ 8 * j) (hp : ∀ m ∈ l, m.payload.length ≤ 140737488355328 ∧ m.number ≤ 9223372036854775807) : Fine n j (s.send l) :=
  ⟨h.all, h.casts, by have := List.length_filter_le s.goes l; show (s.pending ++ l.filter s.goes).length ≤ _; rw [List.length_append]; omega, fun m hm => by
    rcases List.mem_append.1 hm with hm | hm
    · exact h.pkt m hm
    · exact hp m (List.mem_filter.1 hm).1, h.proc⟩
theorem Fine.receive {n j : Nat} {s : Grp} (h : Fine n j s) (hn : n ≤ 7) (m : Pkt) (hm0 : m.payload.length ≤ 140737488355328 ∧ m.number ≤ 9223372036854775807) : Fine n (j + 1) (s.receive m) := by
  unfold Grp.receive
  cases hm : s.at_ m.to with
  | none => exact h.more
  | some p =>
    obtain ⟨h0, hp⟩ := at_some hm
    obtain ⟨e1, e2, e3, e4⟩ := h.proc _ p hp
    obtain ⟨r1, r2, r3⟩ := recv_n p m
    have hout := recv_out_le p m
    have hd := done_recv p m
    have hf : Fine n (j + 1) (s.put m.to.toNat (recv p m).1) := ⟨by simp [Grp.put, h.all], h.casts, by have := h.pend; show s.pending.length ≤ _; omega, h.pkt, fun k q hq => by
      rcases put_get hq with ⟨rfl, rfl⟩ | ⟨_, hq⟩
      · rw [r1, r2, r3]; exact ⟨e1, e2, by omega, by omega⟩
      · have := h.proc k q hq; omega⟩
    refine hf.send (by have := h.pend; show s.pending.length + _ ≤ _; omega) (fun x hx => ?_)
    obtain ⟨q1, q2⟩ := recv_same hx
    rw [q1, q2]; exact hm0
theorem Fine.say {n j : Nat} {s : Grp} (h : Fine n j s) (hn : n ≤ 7) (hj : j ≤ 100) (k : Nat) (x : List UInt8) (hx : x.length ≤ 140737488355328) : Fine n (j + 1) (s.say k x) := by
  unfold Grp.say
  cases hm : (s.all[k]?).join with
  | none => exact h.more
  | some p =>
    have hp : s.all[k]? = some (some p) := by
      cases hx : s.all[k]? with
      | none => rw [hx] at hm; cases hm
      | some o => rw [hx] at hm; cases o with
        | none => cases hm
        | some q => simp [Option.join] at hm; rw [hm]
    obtain ⟨e1, e2, e3, e4⟩ := h.proc _ p hp
    dsimp only
    split
    · have hf : Fine n (j + 1) ({ s.put k (bcast p x).1 with casts := s.casts.set k (s.casts.getD k [] ++ [x]) } : Grp) := ⟨by simp [Grp.put, h.all], by simp [h.casts], by have := h.pend; show s.pending.length ≤ _; omega, h.pkt, fun k' q hq => by
        rcases put_get hq with ⟨rfl, rfl⟩ | ⟨_, hq⟩
        · exact ⟨e1, e2, by show p.done.length ≤ _; omega, by show p.own + 1 ≤ _; omega⟩
        · have := h.proc k' q hq; omega⟩
      refine hf.send ?_ (fun y hy => by
        obtain ⟨i, -, rfl⟩ := List.mem_map.1 hy
        exact ⟨hx, by show ((p.own + 1 : Nat) : Int) ≤ _; omega⟩)
      have hl : (bcast p x).2.length = p.n := by unfold bcast; exact all_length _ _ _ _ _ _
      have := h.pend
      show s.pending.length + _ ≤ _
      omega
    · exact h.more
theorem Fine.act {n j : Nat} {s : Grp} (h : Fine n j s) (hn : n ≤ 7) (hj : j ≤ 100) (bad : List Nat) (x : Act) (hx : x.p.payload.length ≤ 140737488355328 ∧ x.p.number ≤ 9223372036854775807) : Fine n (j + 1) (s.act n bad x) := by
  unfold Grp.act
  split
  · exact h.say hn hj _ _ hx.1
  · split
    · split
      · exact h.more
      · rename_i m hm
        have hmf := h.pkt m (List.mem_of_getElem? hm)
        split
        · exact Fine.receive (j := j) (s := { s with pending := s.pending.eraseIdx (modn x.pick s.pending.length) }) ⟨h.all, h.casts, by
            have h1 := h.pend
            have h2 : (s.pending.eraseIdx (modn x.pick s.pending.length)).length ≤ s.pending.length := List.length_eraseIdx_le _ _
            show (s.pending.eraseIdx _).length ≤ _
            omega, fun y hy => h.pkt y (List.mem_of_mem_eraseIdx hy), h.proc⟩ hn _ hmf
        · exact h.receive hn _ hmf
    · split
      · split
        · exact h.more
        · split
          · exact h.receive hn _ hx
          · exact h.more.send (by have := h.pend; simp; omega) (fun y hy => by simp at hy; subst hy; exact hx)
      · exact h.more
theorem modn_lt (i : Int) {n : Nat} (h : 1 ≤ n) : modn i n < n := by
  unfold modn
  have h1 := Int.emod_lt_of_pos i (show (0 : Int) < (n : Int) by omega)
  have h2 := Int.emod_nonneg i (show (n : Int) ≠ 0 by omega)
  omega
end Bra

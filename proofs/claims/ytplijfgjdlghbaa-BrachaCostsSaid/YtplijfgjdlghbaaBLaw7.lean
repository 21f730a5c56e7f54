/-
  A pending message arrives, whichever.
-/
import Derived.Test.YtplijfgjdlghbaaBLaw6
namespace Bra
theorem Tame.takeAt {n : Nat} {liar : Nat → Bool} {ks : List (Int × Int)} {most i : Nat} {s : Grp} (h : Tame n liar ks most i s) (hf : (bads n liar).length ≤ faults n) (h7 : n ≤ 7) {m : Pkt} {k : Nat} (hk : s.pending[k]? = some m) : Tame n liar ks most (i + 1) (({ s with pending := s.pending.eraseIdx k } : Grp).receive m) := by
  have hmem := List.mem_of_getElem? hk
  have a1 := h.hold.take hf hk
  have a2 := due_take h.hold h7 h.keys hk
  have a3 := (h.keys.erase k).receive (h.keys m hmem)
  have h5 := h.due
  refine ⟨a1, a3, by omega, fun j p hj => ?_, fun x hx => ?_⟩
  · unfold Grp.receive at hj
    cases hm : ({ s with pending := s.pending.eraseIdx k } : Grp).at_ m.to with
    | none =>
      rw [hm] at hj
      have := h.done j p hj
      omega
    | some q =>
      rw [hm] at hj
      obtain ⟨h0, hq⟩ := at_some hm
      have hq : s.all[m.to.toNat]? = some (some q) := hq
      rcases put_get (s := { s with pending := s.pending.eraseIdx k }) hj with ⟨rfl, rfl⟩ | ⟨_, hj⟩
      · have h6 := done_recv q m
        have h7 := h.done _ q hq
        omega
      · have := h.done j p hj
        omega
  · unfold Grp.receive at hx
    cases hm : ({ s with pending := s.pending.eraseIdx k } : Grp).at_ m.to with
    | none =>
      rw [hm] at hx
      exact h.pkt x (List.mem_of_mem_eraseIdx hx)
    | some q =>
      rw [hm] at hx
      rcases List.mem_append.1 hx with hx | hx
      · exact h.pkt x (List.mem_of_mem_eraseIdx hx)
      · obtain ⟨e1, e2⟩ := recv_same (List.mem_filter.1 hx).1
        rw [e1, e2]
        exact h.pkt m hmem
/-- The group at its start, with one broadcast. -/
theorem Tame.start {n o : Nat} (h7 : n ≤ 7) (ho : o < n) {t : List UInt8} (ht : t.length ≤ 140737488355328) : Tame n (fun _ => false) [((o : Int), 1)] 1000 0 ((Grp.start n fun _ => false).say o t) := by
  have hc := Cost.start ho t
  have hfn := (Fine.start (n := n) fun _ => false).say h7 (by omega) o t ht
  refine ⟨hc.hold, hc.keys, ?_, fun j p hj => ?_, hfn.pkt⟩
  · have := due_le hfn.all h7 [((o : Int), 1)]
    have := hfn.pend
    simp only [List.length_singleton] at *
    omega
  · have := hfn.proc j p hj
    omega
end Bra

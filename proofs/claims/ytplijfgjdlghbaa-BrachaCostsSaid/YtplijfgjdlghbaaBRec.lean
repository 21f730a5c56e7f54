/-
  A message received, whatever it is.
-/
import Derived.Test.YtplijfgjdlghbaaBBad
import Derived.Test.YtplijfgjdlghbaaBRecv1
import Derived.Test.YtplijfgjdlghbaaBRecv2
import Derived.Test.YtplijfgjdlghbaaBRecv3
namespace Go.Proofs.Ytplijfgjdlghbaa
open Go.RowKit Go.Pl
/-- What a call of Receive leaves. -/
def Received (w : World) (L : Nat → Lab) (G : Nat) (p : Bra.Proc) (m : Bra.Pkt) (e : Ending) (w' : World) : Prop :=
  ∃ L' A' n' c', e = .returned (.slice A' n' c') ∧ ProcAt w' L' G (Bra.recv p m).1 ∧ RdP w' (fun i => w.heap.size ≤ i ∧ L' i = .no) A' n' c' (Bra.recv p m).2 ∧ (∀ i, i < w.heap.size → L' i = L i) ∧ Fr (fun i => L i ≠ .no) w w'
theorem recv_any {w : World} {L : Nat → Lab} {G : Nat} {p : Bra.Proc} (hp : ProcAt w L G p) {A : Option Addr} {n c : Nat} (m : Bra.Pkt) (hr : Rd w (fun i => L i = .no) A n c m.payload) (hf : Fits m.payload) (hk : m.number ≤ 9223372036854775807) (hdn : p.done.length < 1000000) :
    Calls Try.prog 15 #[.pointer (some ⟨G, 0, none⟩), .agg #[.int .i64 m.kind, .int .i64 m.src, .int .i64 m.to, .int .i64 m.origin, .int .i64 m.number, .slice A n c]] w fun e w' => Received w L G p m e w' := by
  obtain ⟨kd, src, to, o, k, bs⟩ := m
  have hr : Rd w (fun i => L i = .no) A n c bs := hr
  have hf : Fits bs := hf
  have hk : k ≤ 9223372036854775807 := hk
  have bad : Bra.valid p.n p.self ⟨kd, src, to, o, k, bs⟩ = false → ∀ e w', e = Ending.returned (.slice none 0 0) ∧ Below w.heap.size w w' → Received w L G p ⟨kd, src, to, o, k, bs⟩ e w' := by
    intro hv e w' h
    refine ⟨L, none, 0, 0, h.1, ?_, ?_, fun _ _ => rfl, Fr.of_below h.2⟩
    · rw [Bra.recv_bad hv]; exact hp.up h.2
    · rw [Bra.recv_bad hv]; exact ⟨[], Row.nil _ _ _, rfl⟩
  by_cases h1 : to = p.self
  · subst h1
    by_cases h2 : 0 ≤ src ∧ src < p.n
    · by_cases h3 : 0 ≤ o ∧ o < p.n
      · by_cases h4 : k < 1
        · exact (bad4 hp hr hf kd src o k h2 h3 h4).mono (bad (by simp [Bra.valid]; omega))
        · by_cases h5 : kd < 1
          · exact (bad5 hp hr hf kd src o k h2 h3 h4 h5).mono (bad (by simp [Bra.valid]; omega))
          · by_cases h6 : 3 < kd
            · exact (bad6 hp hr hf kd src o k h2 h3 h4 h5 h6).mono (bad (by simp [Bra.valid]; omega))
            · rcases (by omega : kd = 1 ∨ kd = 2 ∨ kd = 3) with h7 | h7 | h7
              · subst h7
                by_cases h8 : src = o
                · subst h8
                  exact (recv1 hp hr hf src k h3 h4 hk).mono (fun _ _ h => h)
                · exact (bad7 hp hr hf src o k h2 h3 h4 h8).mono (bad (by simp [Bra.valid]; omega))
              · subst h7
                exact (recv2 hp hr hf src o k h2 h3 h4 hk).mono (fun _ _ h => h)
              · subst h7
                exact (recv3 hp hr hf src o k h2 h3 h4 hk hdn).mono (fun _ _ h => h)
      · exact (bad3 hp hr hf kd src o k h2 h3).mono (bad (by simp [Bra.valid]; omega))
    · exact (bad2 hp hr hf kd src o k h2).mono (bad (by simp [Bra.valid]; omega))
  · exact (bad1 hp hr hf kd src to o k h1).mono (bad (by simp [Bra.valid]; omega))
end Go.Proofs.Ytplijfgjdlghbaa

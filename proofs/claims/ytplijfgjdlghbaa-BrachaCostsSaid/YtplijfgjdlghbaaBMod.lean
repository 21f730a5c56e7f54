/-
  i modulo n; the group's own broadcast.
-/
import Derived.Test.YtplijfgjdlghbaaBGot
import Derived.IntWalk
namespace Go.Proofs.Ytplijfgjdlghbaa
open Go.RowKit Go.Pl
theorem mod_math (i : Int) (n : Nat) (hn : 1 ≤ n) : -(n : Int) < Int.tmod i n ∧ Int.tmod i n < n ∧ Int.tmod (Int.tmod i n + n) n = (((i % (n : Int)).toNat : Nat) : Int) := by
  have h0 : (0 : Int) < (n : Int) := by omega
  have hr := Int.emod_nonneg i (show (n : Int) ≠ 0 by omega)
  rw [Int.toNat_of_nonneg hr]
  by_cases hi : 0 ≤ i
  · rw [Int.tmod_eq_emod_of_nonneg hi]
    have h1 := Int.emod_lt_of_pos i h0
    refine ⟨by omega, h1, ?_⟩
    rw [Int.tmod_eq_emod_of_nonneg (by omega), Int.add_emod_right, Int.emod_emod]
  · obtain ⟨k, rfl⟩ : ∃ k : Int, i = -k := ⟨-i, by omega⟩
    rw [Int.neg_tmod, Int.tmod_eq_emod_of_nonneg (show 0 ≤ k by omega)]
    have h1 := Int.emod_lt_of_pos k h0
    have h2 := Int.emod_nonneg k (show (n : Int) ≠ 0 by omega)
    refine ⟨by omega, by omega, ?_⟩
    rw [Int.tmod_eq_emod_of_nonneg (by omega), Int.add_emod_right]
    have := Int.sub_emod 0 k n
    simp at this
    exact this.symm
set_option maxRecDepth 100000 in
theorem mod_any (w : World) (i : Int) (hi : I64 i) (n : Nat) (hn : 1 ≤ n) (hn2 : n ≤ 1000000) :
    Calls Try.prog 24 #[.int .i64 i, .int .i64 n] w fun e w' => e = .returned (.int .i64 ((Bra.modn i n : Nat) : Int)) ∧ w = w' := by
  have e1 : ¬ (n : Int) < 1 := by omega
  have e2 : ((n : Int) == 0) = false := by simp; omega
  obtain ⟨h1, h2⟩ := hi
  have hm := Lib.hid (mod_math i n hn)
  have hI : I64 i := ⟨h1, h2⟩
  go_enter Try.func24, Try.ntmps24
  go_wp2_with fail
  go_ret
  refine ⟨?_, rfl⟩
  show Ending.returned (.int .i64 (Int.tmod (wrap64 (Int.tmod i n + n)) n)) = _
  obtain ⟨k1, k2, k3⟩ := hm.out
  rw [IntWalk.wrap64_in _ ⟨by omega, by omega⟩, k3]
  rfl
/-- The group's own broadcast. -/
theorem GrpIn.said {w w' : World} {K : Nat → GL} {g : Nat} {s : Bra.Grp} {Lb : Nat → Nat → Lab} {Gs : Nat → Nat} {AA : Option Addr} {an ac : Nat} {av : List Value} {PA : Option Addr} {pn pc : Nat} {pv : List Value} {CA : Option Addr} {cn cc : Nat} {cv : List Value}
    (h : GrpIn w K g s Lb Gs AA an ac av PA pn pc pv CA cn cc cv) {j : Nat} {p : Bra.Proc} (hj : s.all[j]? = some (some p)) {bs : List UInt8} {A : Option Addr} {n c : Nat} (hr : RdP w' (fun i => w.heap.size ≤ i) A n c (Bra.bcast p bs).2) (hp : ProcAt w' (Lb j) (Gs j) (Bra.bcast p bs).1) (hf : Fr (fun i => i = Gs j) w w') :
    ∃ K', GrpAt w' K' g (s.put j (Bra.bcast p bs).1) ∧ Went w K w' K' ∧ RdP w' (fun i => K' i = .no) A n c (Bra.bcast p bs).2 := by
  obtain ⟨hp0, hk0⟩ := h.proc j p hj
  have hlab : Lb j (Gs j) ≠ .no := by rw [hp0.lab]; simp
  obtain ⟨K', Lb', k1, k2, k3⟩ := h.step hj hp (hf.mono fun i hi => .inl (by rw [hi]; exact hlab)) (fun _ _ => rfl)
  exact ⟨K', k1.at_, k2, hr.mono (fun i _ hi => k3 i hi (Classical.byContradiction fun hx => by have := hp0.labs i hx; omega))⟩
end Go.Proofs.Ytplijfgjdlghbaa

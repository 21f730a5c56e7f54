/-
  New and Broadcast.
-/
import Derived.Test.YtplijfgjdlghbaaBCl
namespace Go.Proofs.Ytplijfgjdlghbaa
open Go.RowKit Go.Pl
theorem new_no (w : World) (n self : Int) (h : ¬ (1 ≤ n ∧ n ≤ 64 ∧ 0 ≤ self ∧ self < n)) :
    Calls Try.prog 11 #[.int .i64 n, .int .i64 self] w fun e w' => e = .returned (.tuple #[.pointer none, .int .i64 1]) ∧ w = w' := by
  by_cases h1 : n < 1
  · clear h
    go_enter Try.func11, Try.ntmps11
    go_wp2_with fail
    go_ret2
    exact ⟨rfl, rfl⟩
  · by_cases h2 : 64 < n
    · clear h
      go_enter Try.func11, Try.ntmps11
      go_wp2_with fail
      go_ret2
      exact ⟨rfl, rfl⟩
    · by_cases h3 : self < 0
      · clear h
        go_enter Try.func11, Try.ntmps11
        go_wp2_with fail
        go_ret2
        exact ⟨rfl, rfl⟩
      · have h4 : n ≤ self := by omega
        clear h
        go_enter Try.func11, Try.ntmps11
        go_wp2_with fail
        go_ret2
        exact ⟨rfl, rfl⟩
set_option maxRecDepth 100000 in
theorem new_any (w : World) (n self : Nat) (h1 : 1 ≤ n) (h2 : n ≤ 64) (h3 : self < n) :
    Calls Try.prog 11 #[.int .i64 n, .int .i64 self] w fun e w' => ∃ G L, e = .returned (.tuple #[.pointer (some ⟨G, 0, none⟩), .int .i64 0]) ∧ ProcAt w' L G (Bra.start n self) ∧ (∀ i, L i ≠ .no → w.heap.size ≤ i) ∧ Below w.heap.size w w' := by
  have hmm := @run_makeMap Try.prog
  have e1 : ¬ (n : Int) < 1 := by omega
  have e2 : ¬ (64 : Int) < (n : Int) := by omega
  have e3 : ¬ (self : Int) < 0 := by omega
  have e4 : ¬ (n : Int) ≤ (self : Int) := by omega
  go_enter Try.func11, Try.ntmps11
  go_wp2_with (go_at_call 26; refine (faults_any _ n ⟨by omega, by omega⟩).mono ?_; rintro e w2 ⟨rfl, rfl⟩)
  go_ret2
  refine ⟨w.heap.size + 1, fun i => if i = w.heap.size then .states else if i = w.heap.size + 1 then .proc else .no, rfl, ⟨h1, h2, h3, Nat.zero_le _, by simp [Bra.start], by simp [Bra.start], fun i hi => ?_, by simp, w.heap.size, none, 0, 0, [], [], ?_, by simp, ?_, rfl, ⟨rfl, .inl ⟨rfl, rfl⟩⟩, by simp [Value.ownBlock], rfl⟩, fun i hi => ?_, ?_⟩
  · by_cases a1 : i = w.heap.size
    · simp; omega
    · by_cases a2 : i = w.heap.size + 1
      · simp; omega
      · simp [a1, a2] at hi
  · exact Blk.new' (by simp)
  · exact ((MapIs.new w).alloc _)
  · by_cases a1 : i = w.heap.size
    · omega
    · by_cases a2 : i = w.heap.size + 1
      · omega
      · simp [a1, a2] at hi
  · exact ((Below.refl _ _).alloc (Nat.le_refl _) _).alloc (by simp) _
/-- Another number of broadcasts started. -/
theorem ProcAt.own_set {w : World} {L : Nat → Lab} {G : Nat} {p : Bra.Proc} (h : ProcAt w L G p) (x : Nat) (hx : x ≤ 1000000) : ProcAt (w.setCell ⟨G, 3, none⟩ (.int .i64 x)) L G { p with own := x } := by
  obtain ⟨M, A, nd, cd, lm, vs, h1, h2, h3, h4, h5, h6, h7⟩ := h.at_
  have hf : Fr (fun i => i = G) w (w.setCell ⟨G, 3, none⟩ (.int .i64 x)) := (Fr.refl (fun i => i = G) w).setCell (p := ⟨G, 3, none⟩) (.inl rfl) _
  have ne : ∀ {i : Nat} {y : Lab}, L i = y → y ≠ .proc → ¬ i = G := fun e hy hi => hy (by rw [← e, hi, h.lab])
  exact ⟨h.n1, h.n2, h.self, hx, h.fits, h.few, fun i hi => Nat.lt_of_lt_of_le (h.labs i hi) hf.size, h.lab, M, A, nd, cd, lm, vs, h1.set_ 3 _, h2, h3.fr hf (ne h2 (by simp)),
    h4.all (fun x g d _ _ hd => hd.keep hf (fun _ _ => rfl) (fun i e => ne e (by simp)) (fun i e => ne e (by simp)) (fun i e => ne e (by simp)) (fun i e => ne e (by simp))),
    own_fr h5 hf (fun g e => ne (h6 g e) (by simp)), h6, h7.fr hf (fun i e => ne e (by simp))⟩
set_option maxRecDepth 100000 in
theorem bcast_any {w : World} {L : Nat → Lab} {G : Nat} {p : Bra.Proc} (hp : ProcAt w L G p) {A : Option Addr} {ln c : Nat} {bs : List UInt8} (hr : Rd w (fun i => L i = .no) A ln c bs) (hf : Fits bs) (hown : p.own < 1000000) :
    Calls Try.prog 13 #[.pointer (some ⟨G, 0, none⟩), .slice A ln c] w fun e w' => ∃ A' c', e = .returned (.slice A' p.n c') ∧ RdP w' (fun i => w.heap.size ≤ i) A' p.n c' (Bra.bcast p bs).2 ∧
      ProcAt w' L G (Bra.bcast p bs).1 ∧ Fr (fun i => i = G) w w' := by
  obtain ⟨n1, n2, nself, -, nfits, nfew, nlabs, nlab, M, Ad, nd, cd, lm, vs, hB, hM, hMi, hC, hown', hdl, hD⟩ := id hp
  have cc0 : w.cell? ⟨G, 0, none⟩ = some (.int .i64 p.n) := (hB.cell 0).trans rfl
  have cc1 : w.cell? ⟨G, 1, none⟩ = some (.int .i64 p.self) := (hB.cell 1).trans rfl
  have cc3 : w.cell? ⟨G, 3, none⟩ = some (.int .i64 p.own) := (hB.cell 3).trans rfl
  have fz := hB.frozen 3
  have hGl := Lib.hid hB.lt
  have hI : (p.own : Int) < 1000000 := by omega
  have hp' := Lib.hid hp
  have hR := Lib.hid hr
  have hLG : Hid (L G = .proc) := nlab
  have hF := Lib.hid hf
  have hB' := Lib.hid hB
  clear hp hr hf hB hM hMi hC hown' hdl hD nlabs nfits
  go_enter Try.func13, Try.ntmps13
  go_wp2_with fail
  obtain ⟨w1, hw1⟩ : ∃ w1, w.setCell ⟨G, 3, none⟩ (.int .i64 ((p.own : Int) + 1)) = w1 := ⟨_, rfl⟩
  rw [hw1]
  have hp1 := hp'.out.own_set (p.own + 1) (by omega)
  have f1 : Fr (fun i => i = G) w (w.setCell ⟨G, 3, none⟩ (.int .i64 ((p.own + 1 : Nat) : Int))) := (Fr.refl (fun i => i = G) w).setCell (p := ⟨G, 3, none⟩) (.inl rfl) _
  have hB1 := hB'.out.set_ 3 (.int .i64 ((p.own + 1 : Nat) : Int))
  have hR1 := hR.out.fr f1 (fun i h e => by rw [e, hLG.out] at h; cases h)
  rw [show ((p.own + 1 : Nat) : Int) = (p.own : Int) + 1 from rfl, hw1] at hp1 f1 hB1 hR1
  have hs1 : Hid (w1.heap.size = w.heap.size) := by show _ = _; rw [← hw1]; simp [World.setCell]
  have q1 : ∀ w', Ab w1.drew w' → w'.cell? ⟨G, 1, none⟩ = some (.int .i64 p.self) := fun w' h => (Below.cell h (p := ⟨G, 1, none⟩) hB1.lt).trans ((hB1.cell 1).trans rfl)
  have q3 : ∀ w', Ab w1.drew w' → w'.cell? ⟨G, 3, none⟩ = some (.int .i64 ((p.own : Int) + 1)) := fun w' h => (Below.cell h (p := ⟨G, 3, none⟩) hB1.lt).trans ((hB1.cell 3).trans rfl)
  have k0 : w1.drew.cell? ⟨G, 0, none⟩ = some (.int .i64 p.n) := (hB1.cell 0).trans rfl
  have k1 : w1.drew.cell? ⟨G, 1, none⟩ = some (.int .i64 p.self) := (hB1.cell 1).trans rfl
  have hp2 : Hid (ProcAt w1.drew L G { p with own := p.own + 1 }) := hp1.fr (Fr.refl (fun _ => False) w1).drew (fun _ h => h.elim)
  have f2 := Lib.hid f1.drew
  have hR2 := (hR1.fr (Fr.refl (fun _ => False) w1).drew (fun _ _ h => h)).mono (T := fun _ => True) (fun _ _ _ => trivial)
  have hR3 := Lib.hid hR2
  have hs2 : Hid (w1.drew.heap.size = w.heap.size) := hs1
  clear hw1 hp1 f1 hB1 hR1 hR2 hs1 cc0 cc1 cc3 fz
  refine wp_region_plan Ab Ab.refl Ab.trans [([0, 1, 2, 3, 4, 5, 6, 7, 8, 10], 9), ([], 11)] [12] (by kernel_rfl) (by kernel_rfl) (fun _ _ _ _ _ h => h) ?_
  simp only [wpPlan, ordPick, Option.toList_some, List.cons_append, List.nil_append, List.getElem?_cons_succ, List.getElem?_cons_zero]
  generalize w1.drew = w2 at q1 q3 k0 k1 hp2 f2 hR3 hs2 ⊢
  iterate 4 (go_big_quiet_step (exact fun _ => rfl))
  refine wpq_load_one rfl 3 (.tmp 15) rfl ⟨G, 1, none⟩ rfl _ q1 _ Try.underlying3 rfl ?_
  simp only [Act.put, List.setIfInBounds_toArray, List.set_cons_succ, List.set_cons_zero]
  iterate 3 (go_big_quiet_step (exact fun _ => rfl))
  refine wpq_load_one rfl 3 (.tmp 19) rfl ⟨G, 3, none⟩ rfl _ q3 _ Try.underlying3 rfl ?_
  simp only [Act.put, List.setIfInBounds_toArray, List.set_cons_succ, List.set_cons_zero]
  iterate 1 (go_big_quiet_step (exact fun _ => rfl))
  refine wpQuiet_nil ?_
  clear q1 q3
  go_wp2_with fail
  refine And.intro (Ab.refl _) (wpQuiet_nil ?_)
  go_wp2_with fail
  refine (all_any k0 k1 n2 hR3.out hF.out 1 p.self ((p.own : Int) + 1)).mono ?_
  rintro e w3 ⟨A', c', rfl, hr3, hb3⟩
  go_wp2_with fail
  refine And.intro hb3 ?_
  dsimp only
  iterate 1 (go_big_quiet_step (exact fun _ => rfl))
  refine wpQuiet_nil ?_
  go_wp2_with fail
  go_ret
  exact ⟨A', c', rfl, hr3.mono (fun i _ h => by rw [← hs2.out]; exact h), hp2.out.up hb3, f2.out.trans (Fr.of_below (F := fun i => i = G) hb3) (fun _ h => .inl h)⟩
end Go.Proofs.Ytplijfgjdlghbaa

/-
  A message received by the process that it goes to.
-/
import Derived.Test.YtplijfgjdlghbaaBSend
namespace Go.Proofs.Ytplijfgjdlghbaa
open Go.RowKit Go.Pl
theorem GrpIn.got {w w' : World} {K : Nat → GL} {g : Nat} {s : Bra.Grp} {Lb : Nat → Nat → Lab} {Gs : Nat → Nat} {AA : Option Addr} {an ac : Nat} {av : List Value} {PA : Option Addr} {pn pc : Nat} {pv : List Value} {CA : Option Addr} {cn cc : Nat} {cv : List Value}
    (h : GrpIn w K g s Lb Gs AA an ac av PA pn pc pv CA cn cc cv) {j : Nat} {p : Bra.Proc} (hj : s.all[j]? = some (some p)) {m : Bra.Pkt} {e : Ending} (hr : Received w (Lb j) (Gs j) p m e w') :
    ∃ A n c K', e = .returned (.slice A n c) ∧ GrpAt w' K' g (s.put j (Bra.recv p m).1) ∧ Went w K w' K' ∧ RdP w' (fun i => K' i = .no) A n c (Bra.recv p m).2 := by
  obtain ⟨L', A, n, c, rfl, hp, hrow, hl, hf⟩ := hr
  obtain ⟨K', Lb', k1, k2, k3⟩ := h.step hj hp hf hl
  exact ⟨A, n, c, K', rfl, k1.at_, k2, hrow.mono (fun i _ hi => k3 i hi.1 hi.2)⟩
theorem put_len (s : Bra.Grp) (j : Nat) (p : Bra.Proc) : (s.put j p).all.length = s.all.length := by simp [Bra.Grp.put]
theorem recv_few' (p : Bra.Proc) (m : Bra.Pkt) : (Bra.recv p m).2.length ≤ p.n := by
  unfold Bra.recv
  split
  · dsimp only
    split
    · rw [Bra.all_length]; exact Nat.le_refl _
    · exact Nat.zero_le _
  · exact Nat.zero_le _
set_option maxRecDepth 100000 in
set_option maxHeartbeats 4000000 in
theorem receive_any {w : World} {K : Nat → GL} {g : Nat} {s : Bra.Grp} (h : GrpAt w K g s) (m : Bra.Pkt) {A : Option Addr} {n c : Nat} (hr : Rd w (fun i => K i = .no) A n c m.payload) (hf : Fits m.payload) (hnm : m.number ≤ 9223372036854775807)
    (hd : ∀ (j : Nat) p, s.all[j]? = some (some p) → p.done.length < 1000000) (hpl : s.pending.length + 64 ≤ 1000000) (hal : s.all.length ≤ 1000) :
    Calls Try.prog 25 #[.pointer (some ⟨g, 0, none⟩), .agg #[.int .i64 m.kind, .int .i64 m.src, .int .i64 m.to, .int .i64 m.origin, .int .i64 m.number, .slice A n c]] w fun e w' => e = .returned undef ∧ ∃ K', GrpAt w' K' g (s.receive m) ∧ Went w K w' K' := by
  obtain ⟨Lb, Gs, AA, an, ac, av, PA, pn, pc, pv, CA, cn, cc, cv, hG0⟩ := h
  have hrd := Lib.hid hr
  have hfd := Lib.hid hf
  have hnmd := Lib.hid hnm
  have hdd := Lib.hid hd
  have hpld := Lib.hid hpl
  have hald := Lib.hid hal
  have hG0d := Lib.hid hG0
  clear hr hf hnm hd hpl hal hG0
  go_enter Try.func25, Try.ntmps25
  go_upto_region 1 with fail
  obtain ⟨w1, hw1⟩ : ∃ w1, w.alloc (.cells #[.int .i64 m.kind, .int .i64 m.src, .int .i64 m.to, .int .i64 m.origin, .int .i64 m.number, .slice A n c] 35) = w1 := ⟨_, rfl⟩
  have hX : Blk w1 w.heap.size 35 #[.int .i64 m.kind, .int .i64 m.src, .int .i64 m.to, .int .i64 m.origin, .int .i64 m.number, .slice A n c] := by rw [← hw1]; exact Blk.new' rfl
  have hb1 : Below w.heap.size w w1 := by rw [← hw1]; exact (Below.refl _ _).alloc (Nat.le_refl _) _
  rw [hw1]
  have hG := hG0d.out.upTo hb1
  have hGd := Lib.hid hG
  have g0 : w1.cell? ⟨g, 0, none⟩ = some (.slice AA an ac) := (hG.blk.cell 0).trans rfl
  have m2 : w1.cell? ⟨w.heap.size, 2, none⟩ = some (.int .i64 m.to) := (hX.cell 2).trans rfl
  have hanl : an ≤ 1000 := by rw [hG.anLen]; exact hald.out
  have hask := hG.ask m.to
  have hXd := Lib.hid hX
  have hr1 : Hid (Rd w1 (fun i => K i = .no) A n c m.payload) := hrd.out.fr (Fr.of_below (F := fun _ => False) hb1) (fun _ _ h => h)
  have hwent : Hid (Went w K w1 K) := (Went.refl w K).up hb1
  clear hw1 hX hb1 hG hG0d hrd
  rcases hask with ⟨h1, h2⟩ | ⟨h1, h0, h2⟩ | ⟨k, ab, htk2, hk, rfl, hab, hcase⟩
  · have hto : decide (0 ≤ m.to) = false := decide_eq_false (by omega)
    have hgo1 : Hid (s.receive m = s) := by show _ = _; unfold Bra.Grp.receive; rw [h2]
    clear h1 h2
    go_quiet (fail)
    go_wp2_with fail
    go_returns
    exact ⟨rfl, K, by rw [hgo1.out]; exact (hGd.out.upTo ((Fr.refl (fun _ => False) _).drewN _ |>.below (fun _ h => h.elim) (Nat.le_refl _))).at_, hwent.out.up ((Fr.refl (fun _ => False) _).drewN _ |>.below (fun _ h => h.elim) (Nat.le_refl _))⟩
  · have hto : decide (0 ≤ m.to) = true := decide_eq_true h0
    have hto2 : decide (m.to < (an : Int)) = false := decide_eq_false (by omega)
    have hgo1 : Hid (s.receive m = s) := by show _ = _; unfold Bra.Grp.receive; rw [h2]
    clear h1 h2 h0
    go_quiet (fail)
    go_wp2_with fail
    go_returns
    exact ⟨rfl, K, by rw [hgo1.out]; exact (hGd.out.upTo ((Fr.refl (fun _ => False) _).drewN _ |>.below (fun _ h => h.elim) (Nat.le_refl _))).at_, hwent.out.up ((Fr.refl (fun _ => False) _).drewN _ |>.below (fun _ h => h.elim) (Nat.le_refl _))⟩
  · rw [htk2] at m2
    have htk2d := Lib.hid htk2
    have hkI : (k : Int) < (an : Int) := by omega
    have hne := @ne_nil_proc
    clear htk2
    rcases hcase with ⟨h2, -, hc⟩ | ⟨p, h2, hsp, hc⟩
    · have hgo1 : Hid (s.receive m = s) := by show _ = _; unfold Bra.Grp.receive; rw [h2]
      clear h2
      go_quiet (fail)
      go_wp2_with fail
      go_returns
      exact ⟨rfl, K, by rw [hgo1.out]; exact (hGd.out.upTo ((Fr.refl (fun _ => False) _).drewN _ |>.below (fun _ h => h.elim) (Nat.le_refl _))).at_, hwent.out.up ((Fr.refl (fun _ => False) _).drewN _ |>.below (fun _ h => h.elim) (Nat.le_refl _))⟩
    · have hgo1 : Hid (s.receive m = (s.put k (Bra.recv p m).1).send (Bra.recv p m).2) := by
        show _ = _
        unfold Bra.Grp.receive
        rw [h2, htk2d.out]
        rfl
      have hspd := Lib.hid hsp
      clear h2 hsp
      go_quiet (fail)
      go_upto_region 2 with fail
      obtain ⟨wq, hwq⟩ : ∃ x, w1.drewN nq = x := ⟨_, rfl⟩
      have hbq : Below w1.heap.size w1 wq.drew := by rw [← hwq]; exact (((Fr.refl (fun _ => False) w1).drewN nq).drew).below (fun _ h => h.elim) (Nat.le_refl _)
      rw [hwq]
      have hGe : Hid (GrpIn wq.drew K g s Lb Gs (some ⟨ab, 0, none⟩) an ac av PA pn pc pv CA cn cc cv) := hGd.out.upTo hbq
      have gp : ∀ w', Ab wq.drew w' → w'.cell? ⟨g, 0, none⟩ = some (.slice (some ⟨ab, 0, none⟩) an ac) := fun w' h => (Below.cell h (p := ⟨g, 0, none⟩) hGe.out.blk.lt).trans ((hGe.out.blk.cell 0).trans rfl)
      have cp : ∀ w', Ab wq.drew w' → w'.cell? ⟨ab, k, none⟩ = some (.pointer (some ⟨Gs k, 0, none⟩)) := fun w' h => (Below.cell h (p := ⟨ab, k, none⟩) (Nat.lt_of_lt_of_le hab hbq.size)).trans ((hbq.cell (p := ⟨ab, k, none⟩) hab).trans hc)
      have hX2 : Blk wq.drew w.heap.size 35 #[.int .i64 m.kind, .int .i64 m.src, .int .i64 m.to, .int .i64 m.origin, .int .i64 m.number, .slice A n c] := hXd.out.below hbq hXd.out.lt
      have mt : ∀ w', Ab wq.drew w' → w'.cell? ⟨w.heap.size, 2, none⟩ = some (.int .i64 (k : Int)) := fun w' h => (Below.cell h (p := ⟨w.heap.size, 2, none⟩) hX2.lt).trans ((hX2.cell 2).trans (by rw [← htk2d.out]; rfl))
      have mg : ∀ w', Ab wq.drew w' → Blk w' w.heap.size 35 #[.int .i64 m.kind, .int .i64 m.src, .int .i64 m.to, .int .i64 m.origin, .int .i64 m.number, .slice A n c] := fun w' h => Blk.below (w := wq.drew) hX2 h hX2.lt
      have hre : Hid (Rd wq.drew (fun i => K i = .no) A n c m.payload) := hr1.out.fr (Fr.of_below (F := fun _ => False) hbq) (fun _ _ h => h)
      have hwq2 : Hid (Went w K wq.drew K) := hwent.out.up hbq
      clear hbq hwq hGd hX2 hXd hr1 hwent g0 m2 hc hab
      refine wp_region_late Ab Ab.refl Ab.trans [10, 11] (.one [0, 1, 2, 3, 5] [4, 6, 7, 8, 9] 10 (.one [] [] 11 (.last [] []))) (by kernel_rfl) (by kernel_rfl) (fun _ _ _ _ _ h => h) ?_
      simp only [wpSchV, ordPick, Option.toList_some, List.cons_append, List.nil_append, List.getElem?_cons_succ, List.getElem?_cons_zero]
      generalize wq.drew = wd at gp cp mt mg hGe hre hwq2 ⊢
      iterate 5 (go_big_quiet_step (exact fun _ => rfl))
      refine wpQuiet_nil ?_
      refine wpq_load_one rfl 49 (.tmp 31) rfl ⟨g, 0, none⟩ rfl _ gp _ Try.underlying49 rfl ?_
      simp only [Act.put, List.setIfInBounds_toArray, List.set_cons_succ, List.set_cons_zero]
      refine wpq_load_one rfl 3 (.tmp 33) rfl ⟨w.heap.size, 2, none⟩ rfl _ mt _ Try.underlying3 rfl ?_
      simp only [Act.put, List.setIfInBounds_toArray, List.set_cons_succ, List.set_cons_zero]
      iterate 1 (go_big_quiet_step (exact fun _ => rfl))
      refine wpq_load_one rfl 24 (.tmp 35) rfl ⟨ab, k, none⟩ rfl _ cp _ Try.underlying24 rfl ?_
      simp only [Act.put, List.setIfInBounds_toArray, List.set_cons_succ, List.set_cons_zero]
      refine wpq_load_part rfl 35 (.tmp 3) rfl w.heap.size 0 rfl 35 _ mg #[.int .i64 m.kind, .int .i64 m.src, .int .i64 m.to, .int .i64 m.origin, .int .i64 m.number, .slice A n c] rfl _ Try.underlying35 rfl (by kernel_rfl) ?_
      simp only [Act.put, List.setIfInBounds_toArray, List.set_cons_succ, List.set_cons_zero]
      refine wpQuiet_nil ?_
      clear gp cp mt mg
      go_wp2_with fail
      refine (recv_any (hGe.out.proc k p hspd.out).1 m (hre.out.mono (fun i _ hi => Classical.byContradiction fun hx => by have := (hGe.out.proc k p hspd.out).2 i hx; rw [hi] at this; cases this)) hfd.out hnmd.out (hdd.out k p hspd.out)).mono ?_
      intro e w2 hrec
      have hp64 := (hGe.out.proc k p hspd.out).1.n2
      obtain ⟨A2, n2, c2, K2, rfl, hg2, hwt2, hrow2⟩ := hGe.out.got hspd.out hrec
      have hg2d := Lib.hid hg2
      have hwt2d := Lib.hid hwt2
      have hrow2d := Lib.hid hrow2
      have hlen2 : Hid ((Bra.recv p m).2.length ≤ 64) := Nat.le_trans (recv_few' p m) hp64
      clear hrec hg2 hwt2 hrow2 hp64
      go_wp2_with fail
      refine And.intro (.inl rfl) (wpQuiet_nil (wpQuiet_nil ?_))
      go_wp2_with fail
      refine (send_any hg2d.out hrow2d.out (by show s.pending.length + _ ≤ _; have h1 := hpld.out; have h2 := hlen2.out; omega) (by rw [put_len]; exact hald.out)).mono ?_
      rintro e w3 ⟨rfl, K3, hg3, hwt3⟩
      go_wp2_with fail
      refine And.intro (.inl rfl) (wpQuiet_nil (wpQuiet_nil ?_))
      go_wp2_with fail
      go_returns
      exact ⟨rfl, K3, by rw [hgo1.out]; exact hg3, (hwq2.out.trans hwt2d.out).trans hwt3⟩
end Go.Proofs.Ytplijfgjdlghbaa

/-
  The reference's Receive and Broadcast, whatever comes.
-/
import Derived.Test.YtplijfgjdlghbaaBRefR1
import Derived.Test.YtplijfgjdlghbaaBRefR2
import Derived.Test.YtplijfgjdlghbaaBRefR3
import Derived.Test.YtplijfgjdlghbaaBNew
namespace Go.Proofs.Ytplijfgjdlghbaa
open Go.RowKit Go.Pl
set_option maxRecDepth 100000 in
theorem rrecv_bad {w : World} {L : Nat → Lab} {G kk : Nat} {p : Bra.Proc} (hp : RefAt w L G p kk) (hkk : kk + 1 ≤ 1000000) {A : Option Addr} {n c : Nat} (m : Bra.Pkt) (hv : Bra.valid p.n p.self m = false) :
    Calls Try.prog 16 #[.pointer (some ⟨G, 0, none⟩), .agg #[.int .i64 m.kind, .int .i64 m.src, .int .i64 m.to, .int .i64 m.origin, .int .i64 m.number, .slice A n c]] w fun e w' => RefGot w L G p kk m e w' := by
  obtain ⟨kd, src, dt, o, k, bs⟩ := m
  obtain ⟨CA, cn, cc, cv, DA, dn, dc, dv, hin⟩ := hp
  have gc0 : w.cell? ⟨G, 0, none⟩ = some (.int .i64 p.n) := (hin.blk.cell 0).trans rfl
  have gc1 : w.cell? ⟨G, 1, none⟩ = some (.int .i64 p.self) := (hin.blk.cell 1).trans rfl
  have hI := Lib.hid hin
  have hV := Lib.hid hv
  clear hin hv
  go_enter Try.func16, Try.ntmps16
  go_upto_region 1 with fail
  obtain ⟨w1, hw1⟩ : ∃ w1, w.alloc (.cells #[.int .i64 kd, .int .i64 src, .int .i64 dt, .int .i64 o, .int .i64 k, .slice A n c] 35) = w1 := ⟨_, rfl⟩
  have hXb : Blk w1 w.heap.size 35 #[.int .i64 kd, .int .i64 src, .int .i64 dt, .int .i64 o, .int .i64 k, .slice A n c] := by rw [← hw1]; exact Blk.new' rfl
  have hb1 : Below w.heap.size w w1 := by rw [← hw1]; exact (Below.refl _ _).alloc (Nat.le_refl _) _
  rw [hw1]
  have g10 : w1.cell? ⟨G, 0, none⟩ = some (.int .i64 p.n) := (hb1.cell (p := ⟨G, 0, none⟩) hI.out.blk.lt).trans gc0
  have g11 : w1.cell? ⟨G, 1, none⟩ = some (.int .i64 p.self) := (hb1.cell (p := ⟨G, 1, none⟩) hI.out.blk.lt).trans gc1
  have hG1 : G < w1.heap.size := Nat.lt_of_lt_of_le hI.out.blk.lt hb1.size
  clear hw1 gc0 gc1
  go_wp2_with ((with_reducible refine wpl_load_part rfl 35 (.tmp 3) rfl w.heap.size 0 ?_ 35 _ hXb #[.int .i64 kd, .int .i64 src, .int .i64 dt, .int .i64 o, .int .i64 k, .slice A n c] rfl _ Try.underlying35 rfl (by kernel_rfl) ?_); rfl)
  refine (rvalid_any g10 g11 hG1 ⟨kd, src, dt, o, k, bs⟩).mono ?_
  rw [hV.out]
  rintro e w2 ⟨rfl, hb2⟩
  have hb2' := Lib.hid (hb1.trans (hb2.mono hb1.size))
  clear hXb hb1 hb2 g10 g11 hG1
  go_wp2_with fail
  go_ret
  refine ⟨L, none, 0, 0, rfl, ?_, ?_, fun _ _ => rfl, Fr.of_below hb2'.out⟩
  · rw [Bra.recv_bad hV.out]; exact ((hI.out.up hb2'.out).more (Nat.le_succ _) hkk).at_
  · rw [Bra.recv_bad hV.out]; exact ⟨[], Row.nil _ _ _, rfl⟩
theorem rrecv_any {w : World} {L : Nat → Lab} {G kk : Nat} {p : Bra.Proc} (hp : RefAt w L G p kk) (hkk : kk + 1 ≤ 1000000) {A : Option Addr} {n c : Nat} (m : Bra.Pkt) (hr : Rd w (fun i => L i = .no) A n c m.payload) (hf : Fits m.payload) :
    Calls Try.prog 16 #[.pointer (some ⟨G, 0, none⟩), .agg #[.int .i64 m.kind, .int .i64 m.src, .int .i64 m.to, .int .i64 m.origin, .int .i64 m.number, .slice A n c]] w fun e w' => RefGot w L G p kk m e w' := by
  rcases Bool.eq_false_or_eq_true (Bra.valid p.n p.self m) with hv | hv
  · obtain ⟨kd, src, dt, o, k, bs⟩ := m
    have hr : Rd w (fun i => L i = .no) A n c bs := hr
    have hf : Fits bs := hf
    rcases (show kd = 1 ∨ kd = 2 ∨ kd = 3 by simp [Bra.valid] at hv; omega) with h | h | h
    · subst h; exact rrecv1 hp hkk hr hf src dt o k hv
    · subst h; exact rrecv2 hp hkk hr hf src dt o k hv
    · subst h; exact rrecv3 hp hkk hr hf src dt o k hv
  · exact rrecv_bad hp hkk m hv
set_option maxRecDepth 100000 in
theorem rbcast_any {w : World} {L : Nat → Lab} {G kk : Nat} {p : Bra.Proc} (hp : RefAt w L G p kk) (hkk : kk + 1 ≤ 1000000) {A : Option Addr} {ln c : Nat} {bs : List UInt8} (hr : Rd w (fun i => L i = .no) A ln c bs) (hf : Fits bs) :
    Calls Try.prog 14 #[.pointer (some ⟨G, 0, none⟩), .slice A ln c] w fun e w' => ∃ A' c', e = .returned (.slice A' p.n c') ∧ RdP w' (fun i => w.heap.size ≤ i) A' p.n c' (Bra.bcast p bs).2 ∧
      RefAt w' L G (Bra.bcast p bs).1 (kk + 1) ∧ Fr (fun i => i = G) w w' := by
  obtain ⟨CA, cn, cc, cv, DA, dn, dc, dv, hin⟩ := hp
  have cc0 : w.cell? ⟨G, 0, none⟩ = some (.int .i64 p.n) := (hin.blk.cell 0).trans rfl
  have cc1 : w.cell? ⟨G, 1, none⟩ = some (.int .i64 p.self) := (hin.blk.cell 1).trans rfl
  have cc2 : w.cell? ⟨G, 2, none⟩ = some (.int .i64 p.own) := (hin.blk.cell 2).trans rfl
  have fz := hin.blk.frozen 2
  have n2 := hin.n2
  have hI : (p.own : Int) < 1000000 := by have := hin.own; omega
  have hR := Lib.hid hr
  have hF := Lib.hid hf
  have hB' := Lib.hid hin.blk
  have hLG : Hid (L G = .proc) := hin.lab
  have hId := Lib.hid hin
  have hK := Lib.hid hkk
  clear hr hf hin hkk
  go_enter Try.func14, Try.ntmps14
  go_wp2_with fail
  obtain ⟨w1, hw1⟩ : ∃ w1, w.setCell ⟨G, 2, none⟩ (.int .i64 ((p.own : Int) + 1)) = w1 := ⟨_, rfl⟩
  rw [hw1]
  have f1 : Fr (fun i => i = G) w (w.setCell ⟨G, 2, none⟩ (.int .i64 ((p.own : Int) + 1))) := (Fr.refl (fun i => i = G) w).setCell (p := ⟨G, 2, none⟩) (.inl rfl) _
  have hB1 := hB'.out.set_ 2 (.int .i64 ((p.own : Int) + 1))
  have hR1 := hR.out.fr f1 (fun i h e => by rw [e, hLG.out] at h; cases h)
  rw [hw1] at f1 hB1 hR1
  have hs1 : Hid (w1.heap.size = w.heap.size) := by show _ = _; rw [← hw1]; simp [World.setCell]
  have q1 : ∀ w', Ab w1.drew w' → w'.cell? ⟨G, 1, none⟩ = some (.int .i64 p.self) := fun w' h => (Below.cell h (p := ⟨G, 1, none⟩) hB1.lt).trans ((hB1.cell 1).trans rfl)
  have q3 : ∀ w', Ab w1.drew w' → w'.cell? ⟨G, 2, none⟩ = some (.int .i64 ((p.own : Int) + 1)) := fun w' h => (Below.cell h (p := ⟨G, 2, none⟩) hB1.lt).trans ((hB1.cell 2).trans rfl)
  have sx : ∀ w', Ab w1.drew w' → Bytes w' w'.heap.size (.slice A ln c) bs := fun w' h => ((hR1.fr (Fr.refl (fun _ => False) w1).drew (fun _ _ h => h)).fr (Fr.of_below (F := fun _ => False) h) (fun _ _ h => h)).all
  have k0 : w1.drew.cell? ⟨G, 0, none⟩ = some (.int .i64 p.n) := (hB1.cell 0).trans rfl
  have k1 : w1.drew.cell? ⟨G, 1, none⟩ = some (.int .i64 p.self) := (hB1.cell 1).trans rfl
  have f2 := Lib.hid f1.drew
  have hB2 : Hid (Blk w1.drew G 32 #[.int .i64 p.n, .int .i64 p.self, .int .i64 ((p.own : Int) + 1), .slice CA cn cc, .slice DA dn dc]) := hB1
  have hs2 : Hid (w1.drew.heap.size = w.heap.size) := hs1
  clear hw1 f1 hB1 hR1 hs1 cc0 cc1 cc2 fz
  refine wp_region_plan Ab Ab.refl Ab.trans [([0, 1, 2, 3, 4, 5, 6, 7, 8, 9, 10], 11)] [12] (by kernel_rfl) (by kernel_rfl) (fun _ _ _ _ _ h => h) ?_
  simp only [wpPlan, ordPick, Option.toList_some, List.cons_append, List.nil_append, List.getElem?_cons_succ, List.getElem?_cons_zero]
  generalize w1.drew = w2 at q1 q3 k0 k1 sx f2 hB2 hs2 ⊢
  iterate 4 (go_big_quiet_step (exact fun _ => rfl))
  refine wpq_load_one rfl 3 (.tmp 15) rfl ⟨G, 1, none⟩ rfl _ q1 _ Try.underlying3 rfl ?_
  simp only [Act.put, List.setIfInBounds_toArray, List.set_cons_succ, List.set_cons_zero]
  iterate 3 (go_big_quiet_step (exact fun _ => rfl))
  refine wpq_load_one rfl 3 (.tmp 19) rfl ⟨G, 2, none⟩ rfl _ q3 _ Try.underlying3 rfl ?_
  simp only [Act.put, List.setIfInBounds_toArray, List.set_cons_succ, List.set_cons_zero]
  iterate 1 (go_big_quiet_step (exact fun _ => rfl))
  refine wpq_string rfl 33 9 5 (.tmp 21) rfl Try.underlying33 Try.underlying5 Try.underlying9 _ _ _ rfl _ sx ?_
  simp only [Act.put, List.setIfInBounds_toArray, List.set_cons_succ, List.set_cons_zero]
  refine wpQuiet_nil ?_
  clear q1 q3 sx
  go_wp2_with fail
  refine (rall_any k0 k1 n2 hF.out 1 p.self ((p.own : Int) + 1)).mono ?_
  rintro e w3 ⟨A', c', rfl, hr3, hb3⟩
  go_wp2_with fail
  refine And.intro hb3 ?_
  dsimp only
  iterate 1 (go_big_quiet_step (exact fun _ => rfl))
  refine wpQuiet_nil ?_
  go_wp2_with fail
  go_ret
  have f3 : Fr (fun i => i = G) w w3 := f2.out.trans (Fr.of_below (F := fun i => i = G) hb3) (fun _ h => .inl h)
  have ne : ∀ {i : Nat} {y : Lab}, L i = y → y ≠ .proc → ¬ i = G := fun e hy hi => hy (by rw [← e, hi, hLG.out])
  have h0 := hId.out
  refine ⟨A', c', rfl, hr3.mono (fun i _ h => by rw [← hs2.out]; exact h), ⟨CA, cn, cc, cv, DA, dn, dc, dv, ?_⟩, f3⟩
  exact ⟨h0.n2, hK.out, Nat.succ_le_succ h0.own, Nat.le_succ_of_le h0.few, Nat.le_succ_of_le h0.cs, fun c hc => ⟨Nat.le_succ_of_le (h0.vfew c hc).1, Nat.le_succ_of_le (h0.vfew c hc).2⟩, fun i hi => Nat.lt_of_lt_of_le (h0.labs i hi) f3.size, h0.lab,
    (hb3.block _ hB2.out.lt).trans hB2.out, own_fr h0.crow f3 (fun g e => ne (h0.clab g e) (by simp)), h0.clab, h0.rcs.fr f3 (fun i e => ne e (by simp)), own_fr h0.drow f3 (fun g e => ne (h0.dlab g e) (by simp)), h0.dlab, h0.des.fr f3 (fun i e => ne e (by simp))⟩
end Go.Proofs.Ytplijfgjdlghbaa

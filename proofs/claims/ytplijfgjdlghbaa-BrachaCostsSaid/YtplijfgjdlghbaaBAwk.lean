/-
  The examples of the chapter.
-/
import Derived.Test.YtplijfgjdlghbaaBRec
import Derived.Test.YtplijfgjdlghbaaBDel
import Derived.Lib.SlBytesConst
namespace Bra
def mk (kind src : Int) : Pkt := ⟨kind, src, 0, 2, 1, [120]⟩
def w1 : Proc × List Pkt := recv (start 4 0) (mk 1 2)
def w2 : Proc × List Pkt := recv w1.1 (mk 2 0)
def w3 : Proc × List Pkt := recv w2.1 (mk 2 1)
def w4 : Proc × List Pkt := recv w3.1 (mk 2 3)
def w5 : Proc × List Pkt := recv w4.1 (mk 3 0)
def w6 : Proc × List Pkt := recv w5.1 (mk 3 1)
def w7 : Proc × List Pkt := recv w6.1 (mk 3 2)
theorem w1_len : w1.2.length = 4 := by decide
theorem w2_len : w2.2.length = 0 := by decide
theorem w3_len : w3.2.length = 0 := by decide
theorem w4_len : w4.2.length = 4 := by decide
theorem w4_at : w4.2[3]? = some ⟨3, 0, 3, 2, 1, [120]⟩ := by decide
theorem w6_done : w6.1.done.length = 0 := by decide
theorem w7_done : w7.1.done = [⟨2, 1, [120]⟩] := by decide
theorem w7_cast : (bcast w7.1 [121]).2.length = 4 := by decide
theorem w7_at : (bcast w7.1 [121]).2[1]? = some ⟨1, 0, 1, 0, 1, [121]⟩ := by decide
theorem few : (start 4 0).done.length < 1000000 ∧ w1.1.done.length < 1000000 ∧ w2.1.done.length < 1000000 ∧ w3.1.done.length < 1000000 ∧ w4.1.done.length < 1000000 ∧ w5.1.done.length < 1000000 ∧ w6.1.done.length < 1000000 ∧ w7.1.own < 1000000 ∧ w7.1.n = 4 := by decide
end Bra
namespace Go.Proofs.Ytplijfgjdlghbaa
open Go.RowKit Go.Pl
/-- A process that has been made since w0, w0's own blocks as they were. -/
structure Mine (w0 w : World) (L : Nat → Lab) (G : Nat) (p : Bra.Proc) : Prop where
  proc : ProcAt w L G p
  below : Below w0.heap.size w0 w
  labs : ∀ i, L i ≠ .no → w0.heap.size ≤ i
section
variable {w0 w w' : World} {L : Nat → Lab} {G : Nat} {p : Bra.Proc}
theorem Mine.up (h : Mine w0 w L G p) (hb : Below w.heap.size w w') : Mine w0 w' L G p := ⟨h.proc.up hb, h.below.trans (hb.mono h.below.size), h.labs⟩
theorem Mine.recv (h : Mine w0 w L G p) {m : Bra.Pkt} {e : Ending} (hr : Received w L G p m e w') :
    ∃ L' A' n' c', e = .returned (.slice A' n' c') ∧ n' = (Bra.recv p m).2.length ∧ Mine w0 w' L' G (Bra.recv p m).1 ∧ RdP w' (fun i => w.heap.size ≤ i ∧ L' i = .no) A' n' c' (Bra.recv p m).2 ∧ (∀ i, i < w.heap.size → L' i = L i) ∧ Fr (fun i => L i ≠ .no) w w' := by
  obtain ⟨L', A', n', c', he, hp, hr, hl, hf⟩ := hr
  refine ⟨L', A', n', c', he, hr.len, ⟨hp, h.below.trans (hf.below h.labs h.below.size), fun i hi => ?_⟩, hr, hl, hf⟩
  rcases Nat.lt_or_ge i w.heap.size with hx | hx
  · exact h.labs i (by rw [← hl i hx]; exact hi)
  · exact Nat.le_trans h.below.size hx
theorem mine_new {w1 : World} (hp : ProcAt w1 L G p) (hl : ∀ i, L i ≠ .no → w0.heap.size ≤ i) (hb : Below w0.heap.size w0 w1) : Mine w0 w1 L G p := ⟨hp, hb, hl⟩
end
theorem conv_one (w : World) (x : Int) : (convert 33 33 (.slice (some ⟨w.heap.size, 0, none⟩) 1 1)).run Try.prog (w.alloc (.cells #[.int .u8 x] 5)) =
    .ok (.slice (some ⟨w.heap.size, 0, none⟩) 1 1) (w.alloc (.cells #[.int .u8 x] 5 (1, 2))) := Lib.run_convert_bytes_const w 33 5 _ 1 1 Try.underlying33 Try.underlying5
theorem rd_one (w : World) (x : UInt8) (lo hi : Nat) : Rd (w.alloc (.cells #[.int .u8 (x.toNat : Int)] 5 (lo, hi))) (fun i => i = w.heap.size) (some ⟨w.heap.size, 0, none⟩) 1 1 [x] := by
  refine ⟨rfl, Nat.le_refl _, by simp [maxLen], (fun e => by cases e), fun _ => ⟨w.heap.size, 0, rfl, rfl, by simp, fun i hi' => ?_⟩⟩
  obtain rfl : i = 0 := by omega
  exact cell_of_row _ w.heap.size 0 _ 5 (lo, hi) (heap_alloc_new w _)
set_option maxRecDepth 100000 in
theorem packet_any (w : World) (kind src : Int) : Calls Try.prog 27 #[.int .i64 kind, .int .i64 src] w fun e w' =>
    ∃ A n c, e = .returned (.agg #[.int .i64 kind, .int .i64 src, .int .i64 0, .int .i64 2, .int .i64 1, .slice A n c]) ∧ Rd w' (fun i => w.heap.size ≤ i) A n c [120] ∧ Below w.heap.size w w' := by
  have hcv := conv_one (w.alloc (.cells #[.int .i64 0, .int .i64 0, .int .i64 0, .int .i64 0, .int .i64 0, .slice none 0 0] 35)) 120
  rw [size_alloc1] at hcv
  go_enter Try.func27, Try.ntmps27
  go_wp2_with fail
  have hk : Blk ((w.alloc (.cells #[.int .i64 kind, .int .i64 src, .int .i64 0, .int .i64 2, .int .i64 1, .slice (some ⟨w.heap.size + 1, 0, none⟩) 1 1] 35)).alloc (.cells #[.int .u8 120] 5 (1, 2))) w.heap.size 35
      #[.int .i64 kind, .int .i64 src, .int .i64 0, .int .i64 2, .int .i64 1, .slice (some ⟨w.heap.size + 1, 0, none⟩) 1 1] := (Blk.new' rfl).alloc _
  have hr := rd_one (w.alloc (.cells #[.int .i64 kind, .int .i64 src, .int .i64 0, .int .i64 2, .int .i64 1, .slice (some ⟨w.heap.size + 1, 0, none⟩) 1 1] 35)) 120 1 2
  rw [size_alloc1] at hr
  exact bodyPost_ret (results_cell_row (P := Try.prog) Try.results27 _ _ w.heap.size 35 _ (0, 0) _ rfl hk Try.underlying35 rfl (by kernel_rfl)) rfl
    ⟨_, _, _, rfl, hr.mono (fun i _ h => by omega), ((Below.refl _ _).alloc (Nat.le_refl _) _).alloc (by simp) _⟩
theorem eq_nil_proc (w : World) (a : Option Addr) : (binOp .eql 24 (.pointer a) (.pointer none)).run Try.prog w = .ok (.bool a.isNone) w := by
  cases a <;> kernel_rfl
set_option maxRecDepth 100000 in
set_option maxHeartbeats 4000000 in
theorem awake_any (w : World) : Calls Try.prog 10 #[] w fun e w' => e = .returned (.bool true) ∧ Below w.heap.size w w' := by
  have hF1 : ((Bra.faults (4 : Int).toNat : Nat) : Int) = 1 := by decide
  have hF2 : ((Bra.faults (3 : Int).toNat : Nat) : Int) = 0 := by decide
  obtain ⟨l0, l1, l2, l3, l4, l5, l6, l7, l8⟩ := Bra.few
  have lf := Lib.hid Bra.few
  clear l0 l1 l2 l3 l4 l5 l6 l7 l8
  have fit1 : Hid (Fits [120]) := by show Fits _; unfold Fits; simp
  go_enter Try.func10, Try.ntmps10
  go_wp2_with fail
  refine (new_any w 4 0 (by omega) (by omega) (by omega)).mono ?_
  rintro e v0 ⟨G, L0, rfl, hp, hl, hb⟩
  have hm0 := mine_new hp hl hb
  clear hp hl hb
  go_wp2_with fail
  refine (faults_any _ 4 ⟨by omega, by omega⟩).mono ?_
  rw [hF1]
  rintro e v1 ⟨rfl, rfl⟩
  go_wp2_with fail
  refine (faults_any _ 3 ⟨by omega, by omega⟩).mono ?_
  rw [hF2]
  rintro e v1 ⟨rfl, rfl⟩
  clear hF1 hF2
  go_wp2_with fail
  refine (packet_any _ 1 2).mono ?_
  rintro e u1 ⟨Aa, na, ca, rfl, hra, hba⟩
  have hma := hm0.up hba
  have hdis : Rd u1 (fun i => L0 i = .no) Aa na ca (Bra.mk 1 2).payload := hra.mono (fun i hi h => Classical.byContradiction (fun hx => by have := hm0.proc.labs i hx; omega))
  go_wp2_with fail
  refine (recv_any hma.proc (Bra.mk 1 2) hdis fit1.out (by decide) lf.out.1).mono ?_
  intro e v1 hrec
  obtain ⟨L1, A1, n1, c1, rfl, hn1, hm1, hr1, hlk1, hfk1⟩ := hma.recv hrec
  rw [show Bra.recv (Bra.start 4 0) (Bra.mk 1 2) = Bra.w1 from rfl] at hn1 hm1 hr1
  rw [Bra.w1_len] at hn1
  subst hn1
  clear hm0 hra hba hma hdis hrec hlk1 hfk1 hr1
  go_wp2_with fail
  refine (packet_any _ 2 0).mono ?_
  rintro e u2 ⟨Aa, na, ca, rfl, hra, hba⟩
  have hma := hm1.up hba
  have hdis : Rd u2 (fun i => L1 i = .no) Aa na ca (Bra.mk 2 0).payload := hra.mono (fun i hi h => Classical.byContradiction (fun hx => by have := hm1.proc.labs i hx; omega))
  go_wp2_with fail
  refine (recv_any hma.proc (Bra.mk 2 0) hdis fit1.out (by decide) lf.out.2.1).mono ?_
  intro e v2 hrec
  obtain ⟨L2, A2, n2, c2, rfl, hn2, hm2, hr2, hlk2, hfk2⟩ := hma.recv hrec
  rw [show Bra.recv Bra.w1.1 (Bra.mk 2 0) = Bra.w2 from rfl] at hn2 hm2 hr2
  rw [Bra.w2_len] at hn2
  subst hn2
  clear hm1 hra hba hma hdis hrec hlk2 hfk2 hr2
  go_wp2_with fail
  refine (packet_any _ 2 1).mono ?_
  rintro e u3 ⟨Aa, na, ca, rfl, hra, hba⟩
  have hma := hm2.up hba
  have hdis : Rd u3 (fun i => L2 i = .no) Aa na ca (Bra.mk 2 1).payload := hra.mono (fun i hi h => Classical.byContradiction (fun hx => by have := hm2.proc.labs i hx; omega))
  go_wp2_with fail
  refine (recv_any hma.proc (Bra.mk 2 1) hdis fit1.out (by decide) lf.out.2.2.1).mono ?_
  intro e v3 hrec
  obtain ⟨L3, A3, n3, c3, rfl, hn3, hm3, hr3, hlk3, hfk3⟩ := hma.recv hrec
  rw [show Bra.recv Bra.w2.1 (Bra.mk 2 1) = Bra.w3 from rfl] at hn3 hm3 hr3
  rw [Bra.w3_len] at hn3
  subst hn3
  clear hm2 hra hba hma hdis hrec hlk3 hfk3 hr3
  go_wp2_with fail
  refine (packet_any _ 2 3).mono ?_
  rintro e u4 ⟨Aa, na, ca, rfl, hra, hba⟩
  have hma := hm3.up hba
  have hdis : Rd u4 (fun i => L3 i = .no) Aa na ca (Bra.mk 2 3).payload := hra.mono (fun i hi h => Classical.byContradiction (fun hx => by have := hm3.proc.labs i hx; omega))
  go_wp2_with fail
  refine (recv_any hma.proc (Bra.mk 2 3) hdis fit1.out (by decide) lf.out.2.2.2.1).mono ?_
  intro e v4 hrec
  obtain ⟨L4, A4, n4, c4, rfl, hn4, hm4, hr4, hlk4, hfk4⟩ := hma.recv hrec
  rw [show Bra.recv Bra.w3.1 (Bra.mk 2 3) = Bra.w4 from rfl] at hn4 hm4 hr4
  rw [Bra.w4_len] at hn4
  subst hn4
  clear hm3 hra hba hma hdis hrec hlk4 hfk4
  obtain ⟨b4, o4, s4, rfl, hb4, hl4, hs4, hg4⟩ := hr4.get Bra.w4_at
  obtain ⟨Ax, nx, cx, rfl, hrx⟩ := hs4
  have x0 : v4.cell? ⟨b4, o4 + 18, none⟩ = some (.int .i64 3) := hg4 0 _ rfl
  have x2 : v4.cell? ⟨b4, o4 + 18 + 2, none⟩ = some (.int .i64 3) := hg4 2 _ rfl
  have x5 : v4.cell? ⟨b4, o4 + 18 + 5, none⟩ = some (.slice Ax nx cx) := hg4 5 _ rfl
  have hbx := hrx.all
  clear hg4 hr4 hrx hb4
  go_wp2_with ((with_reducible refine wpl_string_w 33 9 5 (.tmp 67) rfl ?_ Try.underlying33 Try.underlying5 Try.underlying9 _ ?_ _ hbx ?_); rfl; rfl)
  clear x0 x2 x5 hbx hl4
  go_wp2_with fail
  refine (packet_any _ 3 0).mono ?_
  rintro e u5 ⟨Aa, na, ca, rfl, hra, hba⟩
  have hma := hm4.up hba
  have hdis : Rd u5 (fun i => L4 i = .no) Aa na ca (Bra.mk 3 0).payload := hra.mono (fun i hi h => Classical.byContradiction (fun hx => by have := hm4.proc.labs i hx; omega))
  go_wp2_with fail
  refine (recv_any hma.proc (Bra.mk 3 0) hdis fit1.out (by decide) lf.out.2.2.2.2.1).mono ?_
  intro e v5 hrec
  obtain ⟨L5, A5, n5, c5, rfl, hn5, hm5, hr5, hlk5, hfk5⟩ := hma.recv hrec
  rw [show Bra.recv Bra.w4.1 (Bra.mk 3 0) = Bra.w5 from rfl] at hn5 hm5 hr5
  clear hm4 hra hba hma hdis hrec hlk5 hfk5 hr5
  go_wp2_with fail
  refine (packet_any _ 3 1).mono ?_
  rintro e u6 ⟨Aa, na, ca, rfl, hra, hba⟩
  have hma := hm5.up hba
  have hdis : Rd u6 (fun i => L5 i = .no) Aa na ca (Bra.mk 3 1).payload := hra.mono (fun i hi h => Classical.byContradiction (fun hx => by have := hm5.proc.labs i hx; omega))
  go_wp2_with fail
  refine (recv_any hma.proc (Bra.mk 3 1) hdis fit1.out (by decide) lf.out.2.2.2.2.2.1).mono ?_
  intro e v6 hrec
  obtain ⟨L6, A6, n6, c6, rfl, hn6, hm6, hr6, hlk6, hfk6⟩ := hma.recv hrec
  rw [show Bra.recv Bra.w5.1 (Bra.mk 3 1) = Bra.w6 from rfl] at hn6 hm6 hr6
  clear hm5 hra hba hma hdis hrec hlk6 hfk6 hr6
  go_wp2_with fail
  refine (delivered_any hm6.proc).mono ?_
  rintro e d6 ⟨B6, m6, e6, rfl, hd6, hbd6⟩
  have hy6 := hm6.up hbd6
  have hm6n := hd6.len
  rw [Bra.w6_done] at hm6n
  subst hm6n
  clear hm6 hd6 hbd6
  go_wp2_with fail
  refine (packet_any _ 3 2).mono ?_
  rintro e u7 ⟨Aa, na, ca, rfl, hra, hba⟩
  have hma := hy6.up hba
  have hdis : Rd u7 (fun i => L6 i = .no) Aa na ca (Bra.mk 3 2).payload := hra.mono (fun i hi h => Classical.byContradiction (fun hx => by have := hy6.proc.labs i hx; omega))
  go_wp2_with fail
  refine (recv_any hma.proc (Bra.mk 3 2) hdis fit1.out (by decide) lf.out.2.2.2.2.2.2.1).mono ?_
  intro e v7 hrec
  obtain ⟨L7, A7, n7, c7, rfl, hn7, hm7, hr7, hlk7, hfk7⟩ := hma.recv hrec
  rw [show Bra.recv Bra.w6.1 (Bra.mk 3 2) = Bra.w7 from rfl] at hn7 hm7 hr7
  clear hy6 hra hba hma hdis hrec hlk7 hfk7 hr7
  go_wp2_with fail
  refine (delivered_any hm7.proc).mono ?_
  rintro e d7 ⟨B7, m7, e7, rfl, hd7, hbd7⟩
  have hy7 := hm7.up hbd7
  have hm7n := hd7.len
  rw [Bra.w7_done] at hm7n hd7
  subst hm7n
  obtain ⟨b7, o7, s7, rfl, hb7, hl7, hs7, hg7⟩ := hd7.get (i := 0) rfl
  obtain ⟨Ay, ny, cy, rfl, hry⟩ := hs7
  have hG7 : Hid (G < v7.heap.size) := hm7.proc.lt
  have hcv := conv_one d7 121
  have hr1 := rd_one d7 121 1 2
  have hal : Below d7.heap.size d7 (d7.alloc (.cells #[.int .u8 121] 5 (1, 2))) := (Below.refl _ _).alloc (Nat.le_refl _) _
  have hz7 := hy7.up hal
  have hdis : Rd (d7.alloc (.cells #[.int .u8 121] 5 (1, 2))) (fun i => L7 i = .no) (some ⟨d7.heap.size, 0, none⟩) 1 1 [121] := hr1.mono (fun i hi h => Classical.byContradiction (fun hx => by have := hy7.proc.labs i hx; omega))
  have hbc := Lib.hid (bcast_any hz7.proc hdis (by unfold Fits; simp) lf.out.2.2.2.2.2.2.2.1)
  have hz7d := Lib.hid hz7
  have h7d : Hid (v7.heap.size ≤ d7.heap.size) := hbd7.size
  have hald := Lib.hid hal
  have hl7d := Lib.hid hl7
  have hb7d : Hid (v7.heap.size ≤ b7) := hb7
  have hg7d := Lib.hid hg7
  have hryd := Lib.hid hry
  clear hm7 hd7 hbd7 hy7 hal hz7 hr1 hdis hl7 hb7 hg7 hry
  go_wp2_with fail
  refine hbc.out.mono ?_
  rw [lf.out.2.2.2.2.2.2.2.2]
  rintro e w8 ⟨A8, c8, rfl, hr8, hp8, hf8⟩
  obtain ⟨b8, o8, s8, rfl, -, hl8, -, hg8⟩ := hr8.get Bra.w7_at
  have f78 : Fr (fun i => i = G) d7 w8 := ((Fr.of_below (F := fun i => i = G) hald.out)).trans hf8 (fun _ h => .inl h)
  have hbel : Below w.heap.size w w8 := hz7d.out.below.trans (hf8.below (fun i e => by rw [e]; exact hz7d.out.labs G (by rw [hz7d.out.proc.lab]; simp)) hz7d.out.below.size)
  have hneG : ¬ b7 = G := fun e => by have h1 := hb7d.out; have h2 := hG7.out; omega
  have y0 : w8.cell? ⟨b7, o7, none⟩ = some (.int .i64 2) := (f78.cell (p := ⟨b7, o7, none⟩) hl7d.out hneG).trans (hg7d.out 0 _ rfl)
  have y2 : w8.cell? ⟨b7, o7 + 2, none⟩ = some (.slice Ay ny cy) := (f78.cell (p := ⟨b7, o7 + 2, none⟩) hl7d.out hneG).trans (hg7d.out 2 _ rfl)
  have hby := (hryd.out.fr f78 (fun i h e => by have h1 := hG7.out; omega)).all
  have z2 : w8.cell? ⟨b8, o8 + 6 + 2, none⟩ = some (.int .i64 1) := hg8 2 _ rfl
  have z3 : w8.cell? ⟨b8, o8 + 6 + 3, none⟩ = some (.int .i64 0) := hg8 3 _ rfl
  have z4 : w8.cell? ⟨b8, o8 + 6 + 4, none⟩ = some (.int .i64 1) := hg8 4 _ rfl
  clear hr8 hp8 hf8 hl8 hg8 f78 hneG hcv
  go_wp2_with ((with_reducible refine wpl_string_w 33 9 5 (.tmp 104) rfl ?_ Try.underlying33 Try.underlying5 Try.underlying9 _ ?_ _ hby ?_); rfl; rfl)
  go_ret
  exact ⟨rfl, hbel⟩

end Go.Proofs.Ytplijfgjdlghbaa

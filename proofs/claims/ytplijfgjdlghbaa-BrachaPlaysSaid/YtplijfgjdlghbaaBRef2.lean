/-
  The reference's Valid, walked.
-/
import Derived.Test.YtplijfgjdlghbaaBRef1
import Derived.Deep.QuietTactic
import Derived.BigQuiet
namespace Go.Proofs.Ytplijfgjdlghbaa
open Go.RowKit Go.Pl
set_option maxRecDepth 100000 in
set_option maxHeartbeats 2000000 in
theorem rval1 {w : World} {G : Nat} {n self : Nat} (g0 : w.cell? ⟨G, 0, none⟩ = some (.int .i64 n)) (g1 : w.cell? ⟨G, 1, none⟩ = some (.int .i64 self)) (hG : G < w.heap.size) {A : Option Addr} {pl pc : Nat} (kd src to o k : Int)  (h1 : (to == (self : Int)) = false)  :
    Calls Try.prog 36 #[.pointer (some ⟨G, 0, none⟩), .agg #[.int .i64 kd, .int .i64 src, .int .i64 to, .int .i64 o, .int .i64 k, .slice A pl pc]] w fun e w' =>
      e = .returned (.bool false) ∧ Below w.heap.size w w' := by
  have hG' := Lib.hid hG
  clear hG
  go_enter Try.func36, Try.ntmps36
  go_upto_region 1 with fail
  obtain ⟨w1, hw1⟩ : ∃ w1, w.alloc (.cells #[.int .i64 kd, .int .i64 src, .int .i64 to, .int .i64 o, .int .i64 k, .slice A pl pc] 35) = w1 := ⟨_, rfl⟩
  have hXb : Blk w1 w.heap.size 35 #[.int .i64 kd, .int .i64 src, .int .i64 to, .int .i64 o, .int .i64 k, .slice A pl pc] := by rw [← hw1]; exact Blk.new' rfl
  have hb1 : Below w.heap.size w w1 := by rw [← hw1]; exact (Below.refl _ _).alloc (Nat.le_refl _) _
  rw [hw1]
  have x0 : w1.cell? ⟨w.heap.size, 0, none⟩ = some (.int .i64 kd) := (hXb.cell 0).trans rfl
  have x1 : w1.cell? ⟨w.heap.size, 1, none⟩ = some (.int .i64 src) := (hXb.cell 1).trans rfl
  have x2 : w1.cell? ⟨w.heap.size, 2, none⟩ = some (.int .i64 to) := (hXb.cell 2).trans rfl
  have x3 : w1.cell? ⟨w.heap.size, 3, none⟩ = some (.int .i64 o) := (hXb.cell 3).trans rfl
  have x4 : w1.cell? ⟨w.heap.size, 4, none⟩ = some (.int .i64 k) := (hXb.cell 4).trans rfl
  have y0 : w1.cell? ⟨G, 0, none⟩ = some (.int .i64 n) := (hb1.cell (p := ⟨G, 0, none⟩) hG'.out).trans g0
  have y1 : w1.cell? ⟨G, 1, none⟩ = some (.int .i64 self) := (hb1.cell (p := ⟨G, 1, none⟩) hG'.out).trans g1
  have hb := Lib.hid hb1
  clear hXb hb1 hw1 g0 g1
  go_quiet (fail)
  go_wp2_with fail
  go_ret
  exact ⟨rfl, hb.out.trans (((Fr.refl (fun _ => False) _).drewN _ |>.below (fun _ h => h.elim) (Nat.le_refl _)).mono hb.out.size)⟩

set_option maxRecDepth 100000 in
set_option maxHeartbeats 2000000 in
theorem rval2 {w : World} {G : Nat} {n self : Nat} (g0 : w.cell? ⟨G, 0, none⟩ = some (.int .i64 n)) (g1 : w.cell? ⟨G, 1, none⟩ = some (.int .i64 self)) (hG : G < w.heap.size) {A : Option Addr} {pl pc : Nat} (kd src to o k : Int) (h1 : (to == (self : Int)) = true) (h2 : decide (0 ≤ src) = false)  :
    Calls Try.prog 36 #[.pointer (some ⟨G, 0, none⟩), .agg #[.int .i64 kd, .int .i64 src, .int .i64 to, .int .i64 o, .int .i64 k, .slice A pl pc]] w fun e w' =>
      e = .returned (.bool false) ∧ Below w.heap.size w w' := by
  have hG' := Lib.hid hG
  clear hG
  go_enter Try.func36, Try.ntmps36
  go_upto_region 1 with fail
  obtain ⟨w1, hw1⟩ : ∃ w1, w.alloc (.cells #[.int .i64 kd, .int .i64 src, .int .i64 to, .int .i64 o, .int .i64 k, .slice A pl pc] 35) = w1 := ⟨_, rfl⟩
  have hXb : Blk w1 w.heap.size 35 #[.int .i64 kd, .int .i64 src, .int .i64 to, .int .i64 o, .int .i64 k, .slice A pl pc] := by rw [← hw1]; exact Blk.new' rfl
  have hb1 : Below w.heap.size w w1 := by rw [← hw1]; exact (Below.refl _ _).alloc (Nat.le_refl _) _
  rw [hw1]
  have x0 : w1.cell? ⟨w.heap.size, 0, none⟩ = some (.int .i64 kd) := (hXb.cell 0).trans rfl
  have x1 : w1.cell? ⟨w.heap.size, 1, none⟩ = some (.int .i64 src) := (hXb.cell 1).trans rfl
  have x2 : w1.cell? ⟨w.heap.size, 2, none⟩ = some (.int .i64 to) := (hXb.cell 2).trans rfl
  have x3 : w1.cell? ⟨w.heap.size, 3, none⟩ = some (.int .i64 o) := (hXb.cell 3).trans rfl
  have x4 : w1.cell? ⟨w.heap.size, 4, none⟩ = some (.int .i64 k) := (hXb.cell 4).trans rfl
  have y0 : w1.cell? ⟨G, 0, none⟩ = some (.int .i64 n) := (hb1.cell (p := ⟨G, 0, none⟩) hG'.out).trans g0
  have y1 : w1.cell? ⟨G, 1, none⟩ = some (.int .i64 self) := (hb1.cell (p := ⟨G, 1, none⟩) hG'.out).trans g1
  have hb := Lib.hid hb1
  clear hXb hb1 hw1 g0 g1
  go_quiet (fail)
  go_wp2_with fail
  go_ret
  exact ⟨rfl, hb.out.trans (((Fr.refl (fun _ => False) _).drewN _ |>.below (fun _ h => h.elim) (Nat.le_refl _)).mono hb.out.size)⟩

set_option maxRecDepth 100000 in
set_option maxHeartbeats 2000000 in
theorem rval3 {w : World} {G : Nat} {n self : Nat} (g0 : w.cell? ⟨G, 0, none⟩ = some (.int .i64 n)) (g1 : w.cell? ⟨G, 1, none⟩ = some (.int .i64 self)) (hG : G < w.heap.size) {A : Option Addr} {pl pc : Nat} (kd src to o k : Int) (h1 : (to == (self : Int)) = true) (h2 : decide (0 ≤ src) = true) (h3 : decide (src < (n : Int)) = false)  :
    Calls Try.prog 36 #[.pointer (some ⟨G, 0, none⟩), .agg #[.int .i64 kd, .int .i64 src, .int .i64 to, .int .i64 o, .int .i64 k, .slice A pl pc]] w fun e w' =>
      e = .returned (.bool false) ∧ Below w.heap.size w w' := by
  have hG' := Lib.hid hG
  clear hG
  go_enter Try.func36, Try.ntmps36
  go_upto_region 1 with fail
  obtain ⟨w1, hw1⟩ : ∃ w1, w.alloc (.cells #[.int .i64 kd, .int .i64 src, .int .i64 to, .int .i64 o, .int .i64 k, .slice A pl pc] 35) = w1 := ⟨_, rfl⟩
  have hXb : Blk w1 w.heap.size 35 #[.int .i64 kd, .int .i64 src, .int .i64 to, .int .i64 o, .int .i64 k, .slice A pl pc] := by rw [← hw1]; exact Blk.new' rfl
  have hb1 : Below w.heap.size w w1 := by rw [← hw1]; exact (Below.refl _ _).alloc (Nat.le_refl _) _
  rw [hw1]
  have x0 : w1.cell? ⟨w.heap.size, 0, none⟩ = some (.int .i64 kd) := (hXb.cell 0).trans rfl
  have x1 : w1.cell? ⟨w.heap.size, 1, none⟩ = some (.int .i64 src) := (hXb.cell 1).trans rfl
  have x2 : w1.cell? ⟨w.heap.size, 2, none⟩ = some (.int .i64 to) := (hXb.cell 2).trans rfl
  have x3 : w1.cell? ⟨w.heap.size, 3, none⟩ = some (.int .i64 o) := (hXb.cell 3).trans rfl
  have x4 : w1.cell? ⟨w.heap.size, 4, none⟩ = some (.int .i64 k) := (hXb.cell 4).trans rfl
  have y0 : w1.cell? ⟨G, 0, none⟩ = some (.int .i64 n) := (hb1.cell (p := ⟨G, 0, none⟩) hG'.out).trans g0
  have y1 : w1.cell? ⟨G, 1, none⟩ = some (.int .i64 self) := (hb1.cell (p := ⟨G, 1, none⟩) hG'.out).trans g1
  have hb := Lib.hid hb1
  clear hXb hb1 hw1 g0 g1
  go_quiet (fail)
  go_wp2_with fail
  go_ret
  exact ⟨rfl, hb.out.trans (((Fr.refl (fun _ => False) _).drewN _ |>.below (fun _ h => h.elim) (Nat.le_refl _)).mono hb.out.size)⟩

set_option maxRecDepth 100000 in
set_option maxHeartbeats 2000000 in
theorem rval4 {w : World} {G : Nat} {n self : Nat} (g0 : w.cell? ⟨G, 0, none⟩ = some (.int .i64 n)) (g1 : w.cell? ⟨G, 1, none⟩ = some (.int .i64 self)) (hG : G < w.heap.size) {A : Option Addr} {pl pc : Nat} (kd src to o k : Int) (h1 : (to == (self : Int)) = true) (h2 : decide (0 ≤ src) = true) (h3 : decide (src < (n : Int)) = true) (h4 : decide (0 ≤ o) = false)  :
    Calls Try.prog 36 #[.pointer (some ⟨G, 0, none⟩), .agg #[.int .i64 kd, .int .i64 src, .int .i64 to, .int .i64 o, .int .i64 k, .slice A pl pc]] w fun e w' =>
      e = .returned (.bool false) ∧ Below w.heap.size w w' := by
  have hG' := Lib.hid hG
  clear hG
  go_enter Try.func36, Try.ntmps36
  go_upto_region 1 with fail
  obtain ⟨w1, hw1⟩ : ∃ w1, w.alloc (.cells #[.int .i64 kd, .int .i64 src, .int .i64 to, .int .i64 o, .int .i64 k, .slice A pl pc] 35) = w1 := ⟨_, rfl⟩
  have hXb : Blk w1 w.heap.size 35 #[.int .i64 kd, .int .i64 src, .int .i64 to, .int .i64 o, .int .i64 k, .slice A pl pc] := by rw [← hw1]; exact Blk.new' rfl
  have hb1 : Below w.heap.size w w1 := by rw [← hw1]; exact (Below.refl _ _).alloc (Nat.le_refl _) _
  rw [hw1]
  have x0 : w1.cell? ⟨w.heap.size, 0, none⟩ = some (.int .i64 kd) := (hXb.cell 0).trans rfl
  have x1 : w1.cell? ⟨w.heap.size, 1, none⟩ = some (.int .i64 src) := (hXb.cell 1).trans rfl
  have x2 : w1.cell? ⟨w.heap.size, 2, none⟩ = some (.int .i64 to) := (hXb.cell 2).trans rfl
  have x3 : w1.cell? ⟨w.heap.size, 3, none⟩ = some (.int .i64 o) := (hXb.cell 3).trans rfl
  have x4 : w1.cell? ⟨w.heap.size, 4, none⟩ = some (.int .i64 k) := (hXb.cell 4).trans rfl
  have y0 : w1.cell? ⟨G, 0, none⟩ = some (.int .i64 n) := (hb1.cell (p := ⟨G, 0, none⟩) hG'.out).trans g0
  have y1 : w1.cell? ⟨G, 1, none⟩ = some (.int .i64 self) := (hb1.cell (p := ⟨G, 1, none⟩) hG'.out).trans g1
  have hb := Lib.hid hb1
  clear hXb hb1 hw1 g0 g1
  go_quiet (fail)
  go_wp2_with fail
  go_ret
  exact ⟨rfl, hb.out.trans (((Fr.refl (fun _ => False) _).drewN _ |>.below (fun _ h => h.elim) (Nat.le_refl _)).mono hb.out.size)⟩

set_option maxRecDepth 100000 in
set_option maxHeartbeats 2000000 in
theorem rval5 {w : World} {G : Nat} {n self : Nat} (g0 : w.cell? ⟨G, 0, none⟩ = some (.int .i64 n)) (g1 : w.cell? ⟨G, 1, none⟩ = some (.int .i64 self)) (hG : G < w.heap.size) {A : Option Addr} {pl pc : Nat} (kd src to o k : Int) (h1 : (to == (self : Int)) = true) (h2 : decide (0 ≤ src) = true) (h3 : decide (src < (n : Int)) = true) (h4 : decide (0 ≤ o) = true) (h5 : decide (o < (n : Int)) = false)  :
    Calls Try.prog 36 #[.pointer (some ⟨G, 0, none⟩), .agg #[.int .i64 kd, .int .i64 src, .int .i64 to, .int .i64 o, .int .i64 k, .slice A pl pc]] w fun e w' =>
      e = .returned (.bool false) ∧ Below w.heap.size w w' := by
  have hG' := Lib.hid hG
  clear hG
  go_enter Try.func36, Try.ntmps36
  go_upto_region 1 with fail
  obtain ⟨w1, hw1⟩ : ∃ w1, w.alloc (.cells #[.int .i64 kd, .int .i64 src, .int .i64 to, .int .i64 o, .int .i64 k, .slice A pl pc] 35) = w1 := ⟨_, rfl⟩
  have hXb : Blk w1 w.heap.size 35 #[.int .i64 kd, .int .i64 src, .int .i64 to, .int .i64 o, .int .i64 k, .slice A pl pc] := by rw [← hw1]; exact Blk.new' rfl
  have hb1 : Below w.heap.size w w1 := by rw [← hw1]; exact (Below.refl _ _).alloc (Nat.le_refl _) _
  rw [hw1]
  have x0 : w1.cell? ⟨w.heap.size, 0, none⟩ = some (.int .i64 kd) := (hXb.cell 0).trans rfl
  have x1 : w1.cell? ⟨w.heap.size, 1, none⟩ = some (.int .i64 src) := (hXb.cell 1).trans rfl
  have x2 : w1.cell? ⟨w.heap.size, 2, none⟩ = some (.int .i64 to) := (hXb.cell 2).trans rfl
  have x3 : w1.cell? ⟨w.heap.size, 3, none⟩ = some (.int .i64 o) := (hXb.cell 3).trans rfl
  have x4 : w1.cell? ⟨w.heap.size, 4, none⟩ = some (.int .i64 k) := (hXb.cell 4).trans rfl
  have y0 : w1.cell? ⟨G, 0, none⟩ = some (.int .i64 n) := (hb1.cell (p := ⟨G, 0, none⟩) hG'.out).trans g0
  have y1 : w1.cell? ⟨G, 1, none⟩ = some (.int .i64 self) := (hb1.cell (p := ⟨G, 1, none⟩) hG'.out).trans g1
  have hb := Lib.hid hb1
  clear hXb hb1 hw1 g0 g1
  go_quiet (fail)
  go_wp2_with fail
  go_ret
  exact ⟨rfl, hb.out.trans (((Fr.refl (fun _ => False) _).drewN _ |>.below (fun _ h => h.elim) (Nat.le_refl _)).mono hb.out.size)⟩

set_option maxRecDepth 100000 in
set_option maxHeartbeats 2000000 in
theorem rval6 {w : World} {G : Nat} {n self : Nat} (g0 : w.cell? ⟨G, 0, none⟩ = some (.int .i64 n)) (g1 : w.cell? ⟨G, 1, none⟩ = some (.int .i64 self)) (hG : G < w.heap.size) {A : Option Addr} {pl pc : Nat} (kd src to o k : Int) (h1 : (to == (self : Int)) = true) (h2 : decide (0 ≤ src) = true) (h3 : decide (src < (n : Int)) = true) (h4 : decide (0 ≤ o) = true) (h5 : decide (o < (n : Int)) = true) (h6 : decide (1 ≤ k) = false)  :
    Calls Try.prog 36 #[.pointer (some ⟨G, 0, none⟩), .agg #[.int .i64 kd, .int .i64 src, .int .i64 to, .int .i64 o, .int .i64 k, .slice A pl pc]] w fun e w' =>
      e = .returned (.bool false) ∧ Below w.heap.size w w' := by
  have hG' := Lib.hid hG
  clear hG
  go_enter Try.func36, Try.ntmps36
  go_upto_region 1 with fail
  obtain ⟨w1, hw1⟩ : ∃ w1, w.alloc (.cells #[.int .i64 kd, .int .i64 src, .int .i64 to, .int .i64 o, .int .i64 k, .slice A pl pc] 35) = w1 := ⟨_, rfl⟩
  have hXb : Blk w1 w.heap.size 35 #[.int .i64 kd, .int .i64 src, .int .i64 to, .int .i64 o, .int .i64 k, .slice A pl pc] := by rw [← hw1]; exact Blk.new' rfl
  have hb1 : Below w.heap.size w w1 := by rw [← hw1]; exact (Below.refl _ _).alloc (Nat.le_refl _) _
  rw [hw1]
  have x0 : w1.cell? ⟨w.heap.size, 0, none⟩ = some (.int .i64 kd) := (hXb.cell 0).trans rfl
  have x1 : w1.cell? ⟨w.heap.size, 1, none⟩ = some (.int .i64 src) := (hXb.cell 1).trans rfl
  have x2 : w1.cell? ⟨w.heap.size, 2, none⟩ = some (.int .i64 to) := (hXb.cell 2).trans rfl
  have x3 : w1.cell? ⟨w.heap.size, 3, none⟩ = some (.int .i64 o) := (hXb.cell 3).trans rfl
  have x4 : w1.cell? ⟨w.heap.size, 4, none⟩ = some (.int .i64 k) := (hXb.cell 4).trans rfl
  have y0 : w1.cell? ⟨G, 0, none⟩ = some (.int .i64 n) := (hb1.cell (p := ⟨G, 0, none⟩) hG'.out).trans g0
  have y1 : w1.cell? ⟨G, 1, none⟩ = some (.int .i64 self) := (hb1.cell (p := ⟨G, 1, none⟩) hG'.out).trans g1
  have hb := Lib.hid hb1
  clear hXb hb1 hw1 g0 g1
  go_quiet (fail)
  go_wp2_with fail
  go_ret
  exact ⟨rfl, hb.out.trans (((Fr.refl (fun _ => False) _).drewN _ |>.below (fun _ h => h.elim) (Nat.le_refl _)).mono hb.out.size)⟩

set_option maxRecDepth 100000 in
set_option maxHeartbeats 2000000 in
theorem rval7 {w : World} {G : Nat} {n self : Nat} (g0 : w.cell? ⟨G, 0, none⟩ = some (.int .i64 n)) (g1 : w.cell? ⟨G, 1, none⟩ = some (.int .i64 self)) (hG : G < w.heap.size) {A : Option Addr} {pl pc : Nat} (kd src to o k : Int) (h1 : (to == (self : Int)) = true) (h2 : decide (0 ≤ src) = true) (h3 : decide (src < (n : Int)) = true) (h4 : decide (0 ≤ o) = true) (h5 : decide (o < (n : Int)) = true) (h6 : decide (1 ≤ k) = true) (h7 : decide (1 ≤ kd) = false)  :
    Calls Try.prog 36 #[.pointer (some ⟨G, 0, none⟩), .agg #[.int .i64 kd, .int .i64 src, .int .i64 to, .int .i64 o, .int .i64 k, .slice A pl pc]] w fun e w' =>
      e = .returned (.bool false) ∧ Below w.heap.size w w' := by
  have hG' := Lib.hid hG
  clear hG
  go_enter Try.func36, Try.ntmps36
  go_upto_region 1 with fail
  obtain ⟨w1, hw1⟩ : ∃ w1, w.alloc (.cells #[.int .i64 kd, .int .i64 src, .int .i64 to, .int .i64 o, .int .i64 k, .slice A pl pc] 35) = w1 := ⟨_, rfl⟩
  have hXb : Blk w1 w.heap.size 35 #[.int .i64 kd, .int .i64 src, .int .i64 to, .int .i64 o, .int .i64 k, .slice A pl pc] := by rw [← hw1]; exact Blk.new' rfl
  have hb1 : Below w.heap.size w w1 := by rw [← hw1]; exact (Below.refl _ _).alloc (Nat.le_refl _) _
  rw [hw1]
  have x0 : w1.cell? ⟨w.heap.size, 0, none⟩ = some (.int .i64 kd) := (hXb.cell 0).trans rfl
  have x1 : w1.cell? ⟨w.heap.size, 1, none⟩ = some (.int .i64 src) := (hXb.cell 1).trans rfl
  have x2 : w1.cell? ⟨w.heap.size, 2, none⟩ = some (.int .i64 to) := (hXb.cell 2).trans rfl
  have x3 : w1.cell? ⟨w.heap.size, 3, none⟩ = some (.int .i64 o) := (hXb.cell 3).trans rfl
  have x4 : w1.cell? ⟨w.heap.size, 4, none⟩ = some (.int .i64 k) := (hXb.cell 4).trans rfl
  have y0 : w1.cell? ⟨G, 0, none⟩ = some (.int .i64 n) := (hb1.cell (p := ⟨G, 0, none⟩) hG'.out).trans g0
  have y1 : w1.cell? ⟨G, 1, none⟩ = some (.int .i64 self) := (hb1.cell (p := ⟨G, 1, none⟩) hG'.out).trans g1
  have hb := Lib.hid hb1
  clear hXb hb1 hw1 g0 g1
  go_quiet (fail)
  go_wp2_with fail
  go_ret
  exact ⟨rfl, hb.out.trans (((Fr.refl (fun _ => False) _).drewN _ |>.below (fun _ h => h.elim) (Nat.le_refl _)).mono hb.out.size)⟩

set_option maxRecDepth 100000 in
set_option maxHeartbeats 2000000 in
theorem rval8 {w : World} {G : Nat} {n self : Nat} (g0 : w.cell? ⟨G, 0, none⟩ = some (.int .i64 n)) (g1 : w.cell? ⟨G, 1, none⟩ = some (.int .i64 self)) (hG : G < w.heap.size) {A : Option Addr} {pl pc : Nat} (kd src to o k : Int) (h1 : (to == (self : Int)) = true) (h2 : decide (0 ≤ src) = true) (h3 : decide (src < (n : Int)) = true) (h4 : decide (0 ≤ o) = true) (h5 : decide (o < (n : Int)) = true) (h6 : decide (1 ≤ k) = true) (h7 : decide (1 ≤ kd) = true) (h8 : decide (kd ≤ 3) = false)  :
    Calls Try.prog 36 #[.pointer (some ⟨G, 0, none⟩), .agg #[.int .i64 kd, .int .i64 src, .int .i64 to, .int .i64 o, .int .i64 k, .slice A pl pc]] w fun e w' =>
      e = .returned (.bool false) ∧ Below w.heap.size w w' := by
  have hG' := Lib.hid hG
  clear hG
  go_enter Try.func36, Try.ntmps36
  go_upto_region 1 with fail
  obtain ⟨w1, hw1⟩ : ∃ w1, w.alloc (.cells #[.int .i64 kd, .int .i64 src, .int .i64 to, .int .i64 o, .int .i64 k, .slice A pl pc] 35) = w1 := ⟨_, rfl⟩
  have hXb : Blk w1 w.heap.size 35 #[.int .i64 kd, .int .i64 src, .int .i64 to, .int .i64 o, .int .i64 k, .slice A pl pc] := by rw [← hw1]; exact Blk.new' rfl
  have hb1 : Below w.heap.size w w1 := by rw [← hw1]; exact (Below.refl _ _).alloc (Nat.le_refl _) _
  rw [hw1]
  have x0 : w1.cell? ⟨w.heap.size, 0, none⟩ = some (.int .i64 kd) := (hXb.cell 0).trans rfl
  have x1 : w1.cell? ⟨w.heap.size, 1, none⟩ = some (.int .i64 src) := (hXb.cell 1).trans rfl
  have x2 : w1.cell? ⟨w.heap.size, 2, none⟩ = some (.int .i64 to) := (hXb.cell 2).trans rfl
  have x3 : w1.cell? ⟨w.heap.size, 3, none⟩ = some (.int .i64 o) := (hXb.cell 3).trans rfl
  have x4 : w1.cell? ⟨w.heap.size, 4, none⟩ = some (.int .i64 k) := (hXb.cell 4).trans rfl
  have y0 : w1.cell? ⟨G, 0, none⟩ = some (.int .i64 n) := (hb1.cell (p := ⟨G, 0, none⟩) hG'.out).trans g0
  have y1 : w1.cell? ⟨G, 1, none⟩ = some (.int .i64 self) := (hb1.cell (p := ⟨G, 1, none⟩) hG'.out).trans g1
  have hb := Lib.hid hb1
  clear hXb hb1 hw1 g0 g1
  go_quiet (fail)
  go_wp2_with fail
  go_ret
  exact ⟨rfl, hb.out.trans (((Fr.refl (fun _ => False) _).drewN _ |>.below (fun _ h => h.elim) (Nat.le_refl _)).mono hb.out.size)⟩

set_option maxRecDepth 100000 in
set_option maxHeartbeats 2000000 in
theorem rval9 {w : World} {G : Nat} {n self : Nat} (g0 : w.cell? ⟨G, 0, none⟩ = some (.int .i64 n)) (g1 : w.cell? ⟨G, 1, none⟩ = some (.int .i64 self)) (hG : G < w.heap.size) {A : Option Addr} {pl pc : Nat} (kd src to o k : Int) (h1 : (to == (self : Int)) = true) (h2 : decide (0 ≤ src) = true) (h3 : decide (src < (n : Int)) = true) (h4 : decide (0 ≤ o) = true) (h5 : decide (o < (n : Int)) = true) (h6 : decide (1 ≤ k) = true) (h7 : decide (1 ≤ kd) = true) (h8 : decide (kd ≤ 3) = true) (h9 : (kd != 1) = true) :
    Calls Try.prog 36 #[.pointer (some ⟨G, 0, none⟩), .agg #[.int .i64 kd, .int .i64 src, .int .i64 to, .int .i64 o, .int .i64 k, .slice A pl pc]] w fun e w' =>
      e = .returned (.bool true) ∧ Below w.heap.size w w' := by
  have hG' := Lib.hid hG
  clear hG
  go_enter Try.func36, Try.ntmps36
  go_upto_region 1 with fail
  obtain ⟨w1, hw1⟩ : ∃ w1, w.alloc (.cells #[.int .i64 kd, .int .i64 src, .int .i64 to, .int .i64 o, .int .i64 k, .slice A pl pc] 35) = w1 := ⟨_, rfl⟩
  have hXb : Blk w1 w.heap.size 35 #[.int .i64 kd, .int .i64 src, .int .i64 to, .int .i64 o, .int .i64 k, .slice A pl pc] := by rw [← hw1]; exact Blk.new' rfl
  have hb1 : Below w.heap.size w w1 := by rw [← hw1]; exact (Below.refl _ _).alloc (Nat.le_refl _) _
  rw [hw1]
  have x0 : w1.cell? ⟨w.heap.size, 0, none⟩ = some (.int .i64 kd) := (hXb.cell 0).trans rfl
  have x1 : w1.cell? ⟨w.heap.size, 1, none⟩ = some (.int .i64 src) := (hXb.cell 1).trans rfl
  have x2 : w1.cell? ⟨w.heap.size, 2, none⟩ = some (.int .i64 to) := (hXb.cell 2).trans rfl
  have x3 : w1.cell? ⟨w.heap.size, 3, none⟩ = some (.int .i64 o) := (hXb.cell 3).trans rfl
  have x4 : w1.cell? ⟨w.heap.size, 4, none⟩ = some (.int .i64 k) := (hXb.cell 4).trans rfl
  have y0 : w1.cell? ⟨G, 0, none⟩ = some (.int .i64 n) := (hb1.cell (p := ⟨G, 0, none⟩) hG'.out).trans g0
  have y1 : w1.cell? ⟨G, 1, none⟩ = some (.int .i64 self) := (hb1.cell (p := ⟨G, 1, none⟩) hG'.out).trans g1
  have hb := Lib.hid hb1
  clear hXb hb1 hw1 g0 g1
  go_quiet (fail)
  go_wp2_with fail
  go_ret
  exact ⟨rfl, hb.out.trans (((Fr.refl (fun _ => False) _).drewN _ |>.below (fun _ h => h.elim) (Nat.le_refl _)).mono hb.out.size)⟩

set_option maxRecDepth 100000 in
set_option maxHeartbeats 2000000 in
theorem rval10 {w : World} {G : Nat} {n self : Nat} (g0 : w.cell? ⟨G, 0, none⟩ = some (.int .i64 n)) (g1 : w.cell? ⟨G, 1, none⟩ = some (.int .i64 self)) (hG : G < w.heap.size) {A : Option Addr} {pl pc : Nat} (kd src to o k : Int) (h1 : (to == (self : Int)) = true) (h2 : decide (0 ≤ src) = true) (h3 : decide (src < (n : Int)) = true) (h4 : decide (0 ≤ o) = true) (h5 : decide (o < (n : Int)) = true) (h6 : decide (1 ≤ k) = true) (h7 : decide (1 ≤ kd) = true) (h8 : decide (kd ≤ 3) = true) (h9 : (kd != 1) = false) (h10 : (src == o) = true) :
    Calls Try.prog 36 #[.pointer (some ⟨G, 0, none⟩), .agg #[.int .i64 kd, .int .i64 src, .int .i64 to, .int .i64 o, .int .i64 k, .slice A pl pc]] w fun e w' =>
      e = .returned (.bool true) ∧ Below w.heap.size w w' := by
  have hG' := Lib.hid hG
  clear hG
  go_enter Try.func36, Try.ntmps36
  go_upto_region 1 with fail
  obtain ⟨w1, hw1⟩ : ∃ w1, w.alloc (.cells #[.int .i64 kd, .int .i64 src, .int .i64 to, .int .i64 o, .int .i64 k, .slice A pl pc] 35) = w1 := ⟨_, rfl⟩
  have hXb : Blk w1 w.heap.size 35 #[.int .i64 kd, .int .i64 src, .int .i64 to, .int .i64 o, .int .i64 k, .slice A pl pc] := by rw [← hw1]; exact Blk.new' rfl
  have hb1 : Below w.heap.size w w1 := by rw [← hw1]; exact (Below.refl _ _).alloc (Nat.le_refl _) _
  rw [hw1]
  have x0 : w1.cell? ⟨w.heap.size, 0, none⟩ = some (.int .i64 kd) := (hXb.cell 0).trans rfl
  have x1 : w1.cell? ⟨w.heap.size, 1, none⟩ = some (.int .i64 src) := (hXb.cell 1).trans rfl
  have x2 : w1.cell? ⟨w.heap.size, 2, none⟩ = some (.int .i64 to) := (hXb.cell 2).trans rfl
  have x3 : w1.cell? ⟨w.heap.size, 3, none⟩ = some (.int .i64 o) := (hXb.cell 3).trans rfl
  have x4 : w1.cell? ⟨w.heap.size, 4, none⟩ = some (.int .i64 k) := (hXb.cell 4).trans rfl
  have y0 : w1.cell? ⟨G, 0, none⟩ = some (.int .i64 n) := (hb1.cell (p := ⟨G, 0, none⟩) hG'.out).trans g0
  have y1 : w1.cell? ⟨G, 1, none⟩ = some (.int .i64 self) := (hb1.cell (p := ⟨G, 1, none⟩) hG'.out).trans g1
  have hb := Lib.hid hb1
  clear hXb hb1 hw1 g0 g1
  go_quiet (fail)
  go_wp2_with fail
  go_ret
  exact ⟨rfl, hb.out.trans (((Fr.refl (fun _ => False) _).drewN _ |>.below (fun _ h => h.elim) (Nat.le_refl _)).mono hb.out.size)⟩

set_option maxRecDepth 100000 in
set_option maxHeartbeats 2000000 in
theorem rval11 {w : World} {G : Nat} {n self : Nat} (g0 : w.cell? ⟨G, 0, none⟩ = some (.int .i64 n)) (g1 : w.cell? ⟨G, 1, none⟩ = some (.int .i64 self)) (hG : G < w.heap.size) {A : Option Addr} {pl pc : Nat} (kd src to o k : Int) (h1 : (to == (self : Int)) = true) (h2 : decide (0 ≤ src) = true) (h3 : decide (src < (n : Int)) = true) (h4 : decide (0 ≤ o) = true) (h5 : decide (o < (n : Int)) = true) (h6 : decide (1 ≤ k) = true) (h7 : decide (1 ≤ kd) = true) (h8 : decide (kd ≤ 3) = true) (h9 : (kd != 1) = false) (h10 : (src == o) = false) :
    Calls Try.prog 36 #[.pointer (some ⟨G, 0, none⟩), .agg #[.int .i64 kd, .int .i64 src, .int .i64 to, .int .i64 o, .int .i64 k, .slice A pl pc]] w fun e w' =>
      e = .returned (.bool false) ∧ Below w.heap.size w w' := by
  have hG' := Lib.hid hG
  clear hG
  go_enter Try.func36, Try.ntmps36
  go_upto_region 1 with fail
  obtain ⟨w1, hw1⟩ : ∃ w1, w.alloc (.cells #[.int .i64 kd, .int .i64 src, .int .i64 to, .int .i64 o, .int .i64 k, .slice A pl pc] 35) = w1 := ⟨_, rfl⟩
  have hXb : Blk w1 w.heap.size 35 #[.int .i64 kd, .int .i64 src, .int .i64 to, .int .i64 o, .int .i64 k, .slice A pl pc] := by rw [← hw1]; exact Blk.new' rfl
  have hb1 : Below w.heap.size w w1 := by rw [← hw1]; exact (Below.refl _ _).alloc (Nat.le_refl _) _
  rw [hw1]
  have x0 : w1.cell? ⟨w.heap.size, 0, none⟩ = some (.int .i64 kd) := (hXb.cell 0).trans rfl
  have x1 : w1.cell? ⟨w.heap.size, 1, none⟩ = some (.int .i64 src) := (hXb.cell 1).trans rfl
  have x2 : w1.cell? ⟨w.heap.size, 2, none⟩ = some (.int .i64 to) := (hXb.cell 2).trans rfl
  have x3 : w1.cell? ⟨w.heap.size, 3, none⟩ = some (.int .i64 o) := (hXb.cell 3).trans rfl
  have x4 : w1.cell? ⟨w.heap.size, 4, none⟩ = some (.int .i64 k) := (hXb.cell 4).trans rfl
  have y0 : w1.cell? ⟨G, 0, none⟩ = some (.int .i64 n) := (hb1.cell (p := ⟨G, 0, none⟩) hG'.out).trans g0
  have y1 : w1.cell? ⟨G, 1, none⟩ = some (.int .i64 self) := (hb1.cell (p := ⟨G, 1, none⟩) hG'.out).trans g1
  have hb := Lib.hid hb1
  clear hXb hb1 hw1 g0 g1
  go_quiet (fail)
  go_wp2_with fail
  go_ret
  exact ⟨rfl, hb.out.trans (((Fr.refl (fun _ => False) _).drewN _ |>.below (fun _ h => h.elim) (Nat.le_refl _)).mono hb.out.size)⟩

end Go.Proofs.Ytplijfgjdlghbaa

/-
  The chapter's examples.
-/
import Derived.Test.YtlofgcglnpjceaaDoorVerify
import Derived.Lib.SlBytesConst
namespace Keyed
theorem tag_jefe : tag [74, 101, 102, 101] [119, 104, 97, 116, 32, 100, 111, 32, 121, 97, 32, 119, 97, 110, 116, 32, 102, 111, 114, 32, 110, 111, 116, 104, 105, 110, 103, 63] = [91, 220, 193, 70, 191, 96, 117, 78, 106, 4, 36, 38, 8, 149, 117, 199, 90, 0, 63, 8, 157, 39, 57, 131, 157, 236, 88, 185, 100, 236, 56, 67] := by decide +kernel
end Keyed
namespace Go.Proofs.YtlofgcglnpjceaaDoor
open Go.RowKit Go.Pl
theorem cv_jefe (w : World) : (convert 22 22 (.slice (some ⟨w.heap.size, 0, none⟩) 4 4)).run Tryd.prog (w.alloc (.cells #[.int .u8 74, .int .u8 101, .int .u8 102, .int .u8 101] 5)) =
    .ok (.slice (some ⟨w.heap.size, 0, none⟩) 4 4) (w.alloc (.cells #[.int .u8 74, .int .u8 101, .int .u8 102, .int .u8 101] 5 (4, 5))) := Lib.run_convert_bytes_const w 22 5 _ 4 4 rfl rfl
theorem cv_msg (w : World) (o : Obj) : (convert 22 22 (.slice (some ⟨w.heap.size + 1, 0, none⟩) 28 28)).run Tryd.prog ((w.alloc o).alloc (.cells #[.int .u8 119, .int .u8 104, .int .u8 97, .int .u8 116, .int .u8 32, .int .u8 100, .int .u8 111, .int .u8 32, .int .u8 121, .int .u8 97, .int .u8 32, .int .u8 119, .int .u8 97, .int .u8 110, .int .u8 116, .int .u8 32, .int .u8 102, .int .u8 111, .int .u8 114, .int .u8 32, .int .u8 110, .int .u8 111, .int .u8 116, .int .u8 104, .int .u8 105, .int .u8 110, .int .u8 103, .int .u8 63] 5)) =
    .ok (.slice (some ⟨w.heap.size + 1, 0, none⟩) 28 28) ((w.alloc o).alloc (.cells #[.int .u8 119, .int .u8 104, .int .u8 97, .int .u8 116, .int .u8 32, .int .u8 100, .int .u8 111, .int .u8 32, .int .u8 121, .int .u8 97, .int .u8 32, .int .u8 119, .int .u8 97, .int .u8 110, .int .u8 116, .int .u8 32, .int .u8 102, .int .u8 111, .int .u8 114, .int .u8 32, .int .u8 110, .int .u8 111, .int .u8 116, .int .u8 104, .int .u8 105, .int .u8 110, .int .u8 103, .int .u8 63] 5 (28, 29))) := by
  have h := Lib.run_convert_bytes_const (P := Tryd.prog) (w.alloc o) 22 5 #[.int .u8 119, .int .u8 104, .int .u8 97, .int .u8 116, .int .u8 32, .int .u8 100, .int .u8 111, .int .u8 32, .int .u8 121, .int .u8 97, .int .u8 32, .int .u8 119, .int .u8 97, .int .u8 110, .int .u8 116, .int .u8 32, .int .u8 102, .int .u8 111, .int .u8 114, .int .u8 32, .int .u8 110, .int .u8 111, .int .u8 116, .int .u8 104, .int .u8 105, .int .u8 110, .int .u8 103, .int .u8 63] 28 28 rfl rfl
  rw [show (w.alloc o).heap.size = w.heap.size + 1 by simp] at h
  exact h
theorem cv_sec (w : World) : (convert 22 22 (.slice (some ⟨w.heap.size, 0, none⟩) 6 6)).run Tryd.prog (w.alloc (.cells #[.int .u8 115, .int .u8 101, .int .u8 99, .int .u8 114, .int .u8 101, .int .u8 116] 5)) =
    .ok (.slice (some ⟨w.heap.size, 0, none⟩) 6 6) (w.alloc (.cells #[.int .u8 115, .int .u8 101, .int .u8 99, .int .u8 114, .int .u8 101, .int .u8 116] 5 (6, 7))) := Lib.run_convert_bytes_const w 22 5 _ 6 6 rfl rfl
theorem cv_x (w : World) : (convert 22 22 (.slice (some ⟨w.heap.size, 0, none⟩) 1 1)).run Tryd.prog (w.alloc (.cells #[.int .u8 120] 5)) =
    .ok (.slice (some ⟨w.heap.size, 0, none⟩) 1 1) (w.alloc (.cells #[.int .u8 120] 5 (1, 2))) := Lib.run_convert_bytes_const w 22 5 _ 1 1 rfl rfl
/-- A row laid by a conversion. -/
theorem rd_lit (w : World) (xs : List UInt8) (cs : Array Value) (f : Nat × Nat) (hcs : cs = (xs.map u8v).toArray) (hm : xs.length ≤ maxLen) :
    Rd (w.alloc (.cells cs 5 f)) (fun _ => True) (some ⟨w.heap.size, 0, none⟩) xs.length xs.length xs := by
  subst hcs
  refine ⟨rfl, Nat.le_refl _, hm, (fun e => by cases e), fun _ => ⟨w.heap.size, 0, rfl, trivial, by simp, fun i hi => ?_⟩⟩
  rw [Nat.zero_add, cell_of_row _ w.heap.size i _ 5 f (heap_alloc_new w _)]
  simp [hi, u8v]
theorem rd_lit1 (w : World) (o : Obj) (xs : List UInt8) (cs : Array Value) (f : Nat × Nat) (hcs : cs = (xs.map u8v).toArray) (hm : xs.length ≤ maxLen) :
    Rd ((w.alloc o).alloc (.cells cs 5 f)) (fun _ => True) (some ⟨w.heap.size + 1, 0, none⟩) xs.length xs.length xs := by
  have h := rd_lit (w.alloc o) xs cs f hcs hm
  rw [show (w.alloc o).heap.size = w.heap.size + 1 by simp] at h
  exact h
set_option maxRecDepth 100000 in
set_option maxHeartbeats 4000000 in
theorem awake_any (w : World) (hK : Kst w) : Calls Tryd.prog 10 #[] w fun e w' => e = .returned (.bool true) ∧ Below w.heap.size w w' := by
  have hKp := hK.pos
  have c1 := cv_jefe w
  have c2 := cv_msg w (.cells #[.int .u8 74, .int .u8 101, .int .u8 102, .int .u8 101] 5 (4, 5))
  have hb0 : Below w.heap.size w ((w.alloc (.cells #[.int .u8 74, .int .u8 101, .int .u8 102, .int .u8 101] 5 (4, 5))).alloc (.cells #[.int .u8 119, .int .u8 104, .int .u8 97, .int .u8 116, .int .u8 32, .int .u8 100, .int .u8 111, .int .u8 32, .int .u8 121, .int .u8 97, .int .u8 32, .int .u8 119, .int .u8 97, .int .u8 110, .int .u8 116, .int .u8 32, .int .u8 102, .int .u8 111, .int .u8 114, .int .u8 32, .int .u8 110, .int .u8 111, .int .u8 116, .int .u8 104, .int .u8 105, .int .u8 110, .int .u8 103, .int .u8 63] 5 (28, 29))) := ((Below.refl _ _).alloc (Nat.le_refl _) _).alloc (by simp) _
  have r1 : Rd ((w.alloc (.cells #[.int .u8 74, .int .u8 101, .int .u8 102, .int .u8 101] 5 (4, 5))).alloc (.cells #[.int .u8 119, .int .u8 104, .int .u8 97, .int .u8 116, .int .u8 32, .int .u8 100, .int .u8 111, .int .u8 32, .int .u8 121, .int .u8 97, .int .u8 32, .int .u8 119, .int .u8 97, .int .u8 110, .int .u8 116, .int .u8 32, .int .u8 102, .int .u8 111, .int .u8 114, .int .u8 32, .int .u8 110, .int .u8 111, .int .u8 116, .int .u8 104, .int .u8 105, .int .u8 110, .int .u8 103, .int .u8 63] 5 (28, 29))) (fun _ => True) (some ⟨w.heap.size, 0, none⟩) 4 4 [74, 101, 102, 101] := (rd_lit w [74, 101, 102, 101] _ _ rfl (by decide)).fr ((Fr.refl (fun _ => False) _).alloc _) (fun _ _ h => h)
  have r2 : Rd ((w.alloc (.cells #[.int .u8 74, .int .u8 101, .int .u8 102, .int .u8 101] 5 (4, 5))).alloc (.cells #[.int .u8 119, .int .u8 104, .int .u8 97, .int .u8 116, .int .u8 32, .int .u8 100, .int .u8 111, .int .u8 32, .int .u8 121, .int .u8 97, .int .u8 32, .int .u8 119, .int .u8 97, .int .u8 110, .int .u8 116, .int .u8 32, .int .u8 102, .int .u8 111, .int .u8 114, .int .u8 32, .int .u8 110, .int .u8 111, .int .u8 116, .int .u8 104, .int .u8 105, .int .u8 110, .int .u8 103, .int .u8 63] 5 (28, 29))) (fun _ => True) (some ⟨w.heap.size + 1, 0, none⟩) 28 28 [119, 104, 97, 116, 32, 100, 111, 32, 121, 97, 32, 119, 97, 110, 116, 32, 102, 111, 114, 32, 110, 111, 116, 104, 105, 110, 103, 63] := rd_lit1 w (.cells #[.int .u8 74, .int .u8 101, .int .u8 102, .int .u8 101] 5 (4, 5)) [119, 104, 97, 116, 32, 100, 111, 32, 121, 97, 32, 119, 97, 110, 116, 32, 102, 111, 114, 32, 110, 111, 116, 104, 105, 110, 103, 63] _ _ rfl (by decide)
  go_enter Tryd.func10, Tryd.ntmps10
  go_wp2_with fail
  refine (tag_any _ (hK.below hb0 hKp) r1 r2 (by decide) (by decide)).mono ?_
  rintro e w1 ⟨g1, n1, k1, hn1, rfl, hg1, hd1, hb1'⟩
  rw [Keyed.tag_jefe] at hn1 hd1
  have hb1 := hb0.trans (hb1'.mono hb0.size)
  have d0 : w1.cell? ⟨g1, 0, none⟩ = some (.int .u8 91) := hd1.cell (i := 0) (by decide)
  have d1 : w1.cell? ⟨g1, 1, none⟩ = some (.int .u8 220) := hd1.cell (i := 1) (by decide)
  have d2 : w1.cell? ⟨g1, 30, none⟩ = some (.int .u8 56) := hd1.cell (i := 30) (by decide)
  have d3 : w1.cell? ⟨g1, 31, none⟩ = some (.int .u8 67) := hd1.cell (i := 31) (by decide)
  obtain rfl : n1 = 32 := hn1
  have c3 := cv_sec w1
  have r3 : Rd (w1.alloc (.cells #[.int .u8 115, .int .u8 101, .int .u8 99, .int .u8 114, .int .u8 101, .int .u8 116] 5 (6, 7))) (fun _ => True) (some ⟨w1.heap.size, 0, none⟩) 6 6 [115, 101, 99, 114, 101, 116] := rd_lit w1 [115, 101, 99, 114, 101, 116] _ _ rfl (by decide)
  have hb2 := hb1.alloc hb1.size (.cells #[.int .u8 115, .int .u8 101, .int .u8 99, .int .u8 114, .int .u8 101, .int .u8 116] 5 (6, 7))
  clear c1 c2 hb0 r1 r2 hg1 hd1 hb1'
  go_wp2_with fail
  refine (knew_any (k := [115, 101, 99, 114, 101, 116]) _ r3 (by decide) 3).mono ?_
  rintro e w2 ⟨G, rfl, hG, hD, hb2'⟩
  have hb3 := hb2.trans (hb2'.mono hb2.size)
  have hGw : Hid (w.heap.size ≤ G) := by show _ ≤ _; have := hb2.size; omega
  have hSw : Hid (w.heap.size ≤ (w1.alloc (.cells #[.int .u8 115, .int .u8 101, .int .u8 99, .int .u8 114, .int .u8 101, .int .u8 116] 5 (6, 7))).heap.size) := hb2.size
  obtain ⟨S, hS⟩ : ∃ S, (w1.alloc (.cells #[.int .u8 115, .int .u8 101, .int .u8 99, .int .u8 114, .int .u8 101, .int .u8 116] 5 (6, 7))).heap.size = S := ⟨_, rfl⟩
  rw [hS] at hD hSw hG
  have c4 := cv_sec w2
  have r4 : Rd (w2.alloc (.cells #[.int .u8 115, .int .u8 101, .int .u8 99, .int .u8 114, .int .u8 101, .int .u8 116] 5 (6, 7))) (fun _ => True) (some ⟨w2.heap.size, 0, none⟩) 6 6 [115, 101, 99, 114, 101, 116] := rd_lit w2 [115, 101, 99, 114, 101, 116] _ _ rfl (by decide)
  have hb4 := hb3.alloc hb3.size (.cells #[.int .u8 115, .int .u8 101, .int .u8 99, .int .u8 114, .int .u8 101, .int .u8 116] 5 (6, 7))
  have hD4 := hD.up ((Below.refl _ _).alloc (Nat.le_refl _) (.cells #[.int .u8 115, .int .u8 101, .int .u8 99, .int .u8 114, .int .u8 101, .int .u8 116] 5 (6, 7)))
  clear c3 r3 hb2' hS d0 d1 d2 d3 hb1 hb2 hb3 hD
  go_wp2_with fail
  refine (knew_any (k := [115, 101, 99, 114, 101, 116]) _ r4 (by decide) 4).mono ?_
  rintro e w3 ⟨G2, rfl, hG2, hE, hb4'⟩
  have hb5 := hb4.trans (hb4'.mono hb4.size)
  have hD5 := hD4.up hb4'
  have hl := hD4.lt
  have hn1 : ¬ G2 = G := by omega
  have hn2 : ¬ (w2.alloc (.cells #[.int .u8 115, .int .u8 101, .int .u8 99, .int .u8 114, .int .u8 101, .int .u8 116] 5 (6, 7))).heap.size = G := by omega
  obtain ⟨S2, hS2⟩ : ∃ S, (w2.alloc (.cells #[.int .u8 115, .int .u8 101, .int .u8 99, .int .u8 114, .int .u8 101, .int .u8 116] 5 (6, 7))).heap.size = S := ⟨_, rfl⟩
  rw [hS2] at hE hn2
  have hn1 := Lib.hid hn1
  have hn2 := Lib.hid hn2
  clear c4 r4 hb4' hS2 hl hD4 hG2 hb4
  go_wp2_with fail
  refine (raise_any hD5 2).mono ?_
  rintro e w4 ⟨rfl, hD6, hf6⟩
  have hb6 := hb5.trans (hf6.below (B := w.heap.size) (fun i e => e ▸ hGw.out) hb5.size)
  have hE6 := hE.fr hf6 hn1.out hn2.out
  have c5 := cv_x w4
  have hb7 := hb6.alloc hb6.size (.cells #[.int .u8 120] 5 (1, 2))
  have hD7 := hD6.up ((Below.refl _ _).alloc (Nat.le_refl _) (.cells #[.int .u8 120] 5 (1, 2)))
  have hE7 := hE6.up ((Below.refl _ _).alloc (Nat.le_refl _) (.cells #[.int .u8 120] 5 (1, 2)))
  clear hf6 hD5 hE hD6 hE6 hb5 hb6
  go_wp2_with fail
  refine (sign_stale hD7 _ 1 (by omega) (by omega)).mono ?_
  rintro e w5 ⟨rfl, hw5⟩
  rw [← hw5] at hD7 hE7 hb7
  clear hw5 c5
  have c6 := cv_x w5
  have hb8 := hb7.alloc hb7.size (.cells #[.int .u8 120] 5 (1, 2))
  have hD8 := hD7.up ((Below.refl _ _).alloc (Nat.le_refl _) (.cells #[.int .u8 120] 5 (1, 2)))
  have hE8 := hE7.up ((Below.refl _ _).alloc (Nat.le_refl _) (.cells #[.int .u8 120] 5 (1, 2)))
  clear hD7 hE7 hb7
  go_wp2_with fail
  refine (sign_neg _ (-1) (by omega)).mono ?_
  rintro e w6 ⟨rfl, hw6⟩
  rw [← hw6] at hD8 hE8 hb8
  clear hw6 c6
  have c7 := cv_x w6
  have r7 : Rd (w6.alloc (.cells #[.int .u8 120] 5 (1, 2))) (fun _ => True) (some ⟨w6.heap.size, 0, none⟩) 1 1 [120] := rd_lit w6 [120] _ _ rfl (by decide)
  have hb9 := hb8.alloc hb8.size (.cells #[.int .u8 120] 5 (1, 2))
  have hD9 := hD8.up ((Below.refl _ _).alloc (Nat.le_refl _) (.cells #[.int .u8 120] 5 (1, 2)))
  have hE9 := hE8.up ((Below.refl _ _).alloc (Nat.le_refl _) (.cells #[.int .u8 120] 5 (1, 2)))
  have hK9 := hK.below hb9 hKp
  clear hD8 hE8 hb8
  go_wp2_with fail
  refine (sign_any hK9 hD9 (m := [120]) r7 (by decide) (by decide) (by unfold I64; omega) 9 (by omega) (by unfold I64; omega) (by omega)).mono ?_
  rintro e w7 ⟨g7, n7, k7, hn7, rfl, hg7, hd7, hb7'⟩
  have hb10 := hb9.trans (hb7'.mono hb9.size)
  have hD10 := hD9.up hb7'
  have hE10 := hE9.up hb7'
  have hT32 := Keyed.length_tag (Keyed.key [115, 101, 99, 114, 101, 116] 3 9) [120]
  have hr10 := hd7.rd.mono (T := fun _ => True) (fun _ _ _ => trivial)
  obtain ⟨T, hT⟩ : ∃ T, Keyed.tag (Keyed.key [115, 101, 99, 114, 101, 116] 3 9) [120] = T := ⟨_, rfl⟩
  rw [hT] at hn7 hT32 hr10
  obtain rfl : n7 = 32 := hn7.trans hT32
  rw [hT32] at hr10
  have hT' := Lib.hid hT
  have hT32' := Lib.hid hT32
  have c8 := cv_x w7
  have hx : Rd (w7.alloc (.cells #[.int .u8 120] 5 (1, 2))) (fun _ => True) (some ⟨w7.heap.size, 0, none⟩) 1 1 [120] := rd_lit w7 [120] _ _ rfl (by decide)
  have hb11 := hb10.alloc hb10.size (.cells #[.int .u8 120] 5 (1, 2))
  have ab11 : Ab w7 (w7.alloc (.cells #[.int .u8 120] 5 (1, 2))) := (Below.refl _ _).alloc (Nat.le_refl _) (.cells #[.int .u8 120] 5 (1, 2))
  have hE11 := hE10.up ab11
  have hr11 := hr10.ab ab11
  have hK11 := hK.below hb11 hKp
  clear c7 r7 hT hT32 hn7 hb9 hD9 hE9 hK9 hb7' hd7 hg7
  go_wp2_with (first
    | (go_at_call 18; refine (height_any hD10).mono ?_; rintro e wq ⟨rfl, rfl⟩)
    | (go_at_call 17; refine (process_any hD10).mono ?_; rintro e wq ⟨rfl, rfl⟩))
  have hi3 : I64 3 := by unfold I64; omega
  have hi9 : I64 9 := by unfold I64; omega
  refine (verify_any hK11 hE11 hx hr11 (by decide) (by decide) 3 9 hi3 hi9).mono ?_
  rw [hT'.out]
  rintro e w8 ⟨rfl, hb8'⟩
  rw [decide_eq_true (rfl : T = T)]
  have hb12 := hb11.trans (hb8'.mono hb11.size)
  have hE12 := hE11.up hb8'
  have hr12 := hr11.ab hb8'
  have c9 := cv_x w8
  have hx2 : Rd (w8.alloc (.cells #[.int .u8 120] 5 (1, 2))) (fun _ => True) (some ⟨w8.heap.size, 0, none⟩) 1 1 [120] := rd_lit w8 [120] _ _ rfl (by decide)
  have hb13 := hb12.alloc hb12.size (.cells #[.int .u8 120] 5 (1, 2))
  have ab13 : Ab w8 (w8.alloc (.cells #[.int .u8 120] 5 (1, 2))) := (Below.refl _ _).alloc (Nat.le_refl _) (.cells #[.int .u8 120] 5 (1, 2))
  have hE13 := hE12.up ab13
  have hr13 := (hr12.ab ab13).from_ (k := 1) (by decide)
  have hK13 := hK.below hb13 hKp
  have hk7 := hr12.le
  have hk1 : ¬ k7 = 1 := by omega
  have hki : (1 : Int) ≤ (k7 : Int) := by omega
  rw [if_neg hk1] at hr13
  have hr13 : Rd (w8.alloc (.cells #[.int .u8 120] 5 (1, 2))) (fun _ => True) (some ⟨g7, 1, none⟩) 31 (k7 - 1) (T.drop 1) := hr13
  have hTd : Hid (decide (T.drop 1 = T) = false) := decide_eq_false fun e => by
    have := congrArg List.length e
    rw [List.length_drop, hT32'.out] at this
    omega
  clear hb11 ab11 hE11 hr11 hK11 hx c8 hb8' hb12 hE12 hr12 hD10 hE10 hr10
  go_wp2_with fail
  refine (verify_any hK13 hE13 hx2 hr13 (by decide) (by decide) 3 9 hi3 hi9).mono ?_
  rw [hT'.out, hTd.out]
  rintro e w9 ⟨rfl, hb9'⟩
  have hb14 := hb13.trans (hb9'.mono hb13.size)
  go_wp2_with fail
  go_ret
  exact ⟨rfl, hb14⟩
end Go.Proofs.YtlofgcglnpjceaaDoor

/-
  Whether a delivery is in a list.
-/
import Derived.Test.YtplijfgjdlghbaaBDone
import Derived.Test.YtplijfgjdlghbaaOrdV
namespace Go.Proofs.Ytplijfgjdlghbaa
open Go.RowKit Go.Pl
set_option maxRecDepth 100000 in
set_option maxHeartbeats 4000000 in
theorem has_yes (w : World) {S T : Nat → Prop} {A B : Option Addr} {n m c c' : Nat} {ds : List Bra.Del} (ha : RdE w S A n c ds) (hle : ds.length ≤ 1000000) (d : Bra.Del) (hd : Rd w T B m c' d.payload) (hin : d ∈ ds) :
    Calls Try.prog 22 #[.slice A n c, .agg #[.int .i64 d.origin, .int .i64 d.number, .slice B m c']] w fun e w' => e = .returned (.bool true) ∧ Below w.heap.size w w' := by
  obtain rfl : n = ds.length := ha.len
  have had := Lib.hid (ha.mono (T := fun i => i < w.heap.size) (fun i hi _ => hi))
  have hdd := Lib.hid (hd.mono (T := fun i => i < w.heap.size) (fun i hi _ => hi))
  obtain ⟨N, hN⟩ : ∃ N, ds.length = N := ⟨_, rfl⟩
  rw [hN] at had hle ⊢
  have hN' := Lib.hid hN
  have hind := Lib.hid hin
  clear hN ha hd hin
  go_enter Try.func22, Try.ntmps22
  go_upto_region 1 with fail
  obtain ⟨w1, hw1⟩ : ∃ x, w.alloc (.cells #[.int .i64 d.origin, .int .i64 d.number, .slice B m c'] 56) = x := ⟨_, rfl⟩
  have hX : Hid (Blk w1 w.heap.size 56 #[.int .i64 d.origin, .int .i64 d.number, .slice B m c']) := by show Blk _ _ _ _; rw [← hw1]; exact Blk.new' rfl
  have hb1 : Hid (Below w.heap.size w w1) := by show Below _ _ _; rw [← hw1]; exact (Below.refl _ _).alloc (Nat.le_refl _) _
  rw [hw1]
  obtain ⟨xb, hxb⟩ : ∃ x, w.heap.size = x := ⟨_, rfl⟩
  have hxbd := Lib.hid hxb
  rw [hxb] at hX ⊢
  clear hw1 hxb
  go_wp2_with fail
  go_loopw [5] (fun t5 wr => ∃ i : Nat, i ≤ N ∧ t5 = .int .i64 i ∧ d ∉ ds.take i ∧ Blk wr xb 56 #[.int .i64 d.origin, .int .i64 d.number, .slice B m c'] ∧ Below w.heap.size w wr) (fun t5 _ => N - (intOf t5).toNat)
  case atStart => exact ⟨0, by omega, rfl, by simp, hX.out, hb1.out⟩
  case round =>
    obtain ⟨i, hi, rfl, hno, hXr, hb⟩ := hrel
    clear hX hb1
    by_cases hlt : i < N
    · have hltI : (i : Int) < (N : Int) := by omega
      have hil : i < ds.length := by rw [hN'.out]; exact hlt
      obtain ⟨b, off, s, rfl, hbs, -, hs, hg⟩ := had.out.get (List.getElem?_eq_getElem hil)
      obtain ⟨e, he⟩ : ∃ e, ds[i] = e := ⟨_, rfl⟩
      rw [he] at hs hg
      have hnx : Hid (e ≠ d → d ∉ ds.take (i + 1)) := fun hne hx => by
        rw [List.take_succ_eq_append_getElem hil, he] at hx
        rcases List.mem_append.1 hx with hx | hx
        · exact hno hx
        · simp at hx; exact hne hx.symm
      obtain ⟨Ax, nx, cx, rfl, hrx⟩ := hs
      have hbd := Lib.hid hb
      have hXd := Lib.hid hXr
      have up : ∀ {q : Nat} {j : Nat} {v : Value}, q < w.heap.size → w.cell? ⟨q, j, none⟩ = some v → ∀ w', Ab wr.drew w' → w'.cell? ⟨q, j, none⟩ = some v := fun hq hv w' h => ((Below.cell h (p := ⟨_, _, none⟩) (Nat.lt_of_lt_of_le hq hb.size)).trans (hb.cell (p := ⟨_, _, none⟩) hq)).trans hv
      have a0 := up hbs (hg 0 _ rfl)
      have a1 := up hbs (hg 1 _ rfl)
      have a2 := up hbs (hg 2 _ rfl)
      have d0 : ∀ w', Ab wr.drew w' → w'.cell? ⟨xb, 0, none⟩ = some (.int .i64 d.origin) := fun w' h => (Below.cell h (p := ⟨xb, 0, none⟩) hXr.lt).trans ((hXr.cell 0).trans rfl)
      have d1 : ∀ w', Ab wr.drew w' → w'.cell? ⟨xb, 1, none⟩ = some (.int .i64 d.number) := fun w' h => (Below.cell h (p := ⟨xb, 1, none⟩) hXr.lt).trans ((hXr.cell 1).trans rfl)
      have d2 : ∀ w', Ab wr.drew w' → w'.cell? ⟨xb, 2, none⟩ = some (.slice B m c') := fun w' h => (Below.cell h (p := ⟨xb, 2, none⟩) hXr.lt).trans ((hXr.cell 2).trans rfl)
      have fb : ∀ w', Ab wr.drew w' → Fr (fun i => w.heap.size ≤ i) w w' := fun w' h => (Fr.of_below (hb.mono (Nat.le_refl _))).trans (G := fun i => w.heap.size ≤ i) (Fr.of_below (F := fun i => w.heap.size ≤ i) h |> fun k => ⟨k.os, k.tape, k.output, k.size, k.block⟩) (fun _ h => .inl h)
      have sx : ∀ w', Ab wr.drew w' → Bytes w' w'.heap.size (.slice Ax nx cx) e.payload := fun w' h => (hrx.fr (fb w' h) (fun i h => by omega)).all
      have sy : ∀ w', Ab wr.drew w' → Bytes w' w'.heap.size (.slice B m c') d.payload := fun w' h => (hdd.out.fr (fb w' h) (fun i h => by omega)).all
      clear hg hrx up fb he hil hno hb hXr
      by_cases h0 : e.origin = d.origin
      · have h0b : (d.origin == d.origin) = true := by simp
        have h0c : (e.origin == d.origin) = true := by simp [h0]
        by_cases h1 : e.number = d.number
        · have h1b : (d.number == d.number) = true := by simp
          have h1c : (e.number == d.number) = true := by simp [h1]
          by_cases h2 : e.payload = d.payload
          · have h2b : (d.payload.toArray == d.payload.toArray) = true := by simp
            have h2c : (d.payload == d.payload) = true := by simp
            rw [h0] at a0
            rw [h1] at a1
            rw [h2] at sx
            clear h0 h1 h2 h0c h1c
            go_wp2_with fail
            refine wp_region_late Ab Ab.refl Ab.trans [] (.last [0, 1, 5] [2, 3, 4, 6, 7, 8, 9, 10, 11, 12, 13, 14, 15, 16, 17, 18, 19, 20, 21, 22, 23, 24, 25, 26, 27, 28, 29]) (by kernel_rfl) (by kernel_rfl) (fun _ _ _ _ _ h => h) ?_
            simp only [wpSchV, ordPick, Option.toList_some, List.cons_append, List.nil_append, List.getElem?_cons_succ, List.getElem?_cons_zero]
            iterate 3 (go_big_quiet_step (exact fun _ => rfl))
            refine wpQuiet_nil ?_
            iterate 2 (go_big_quiet_step (exact fun _ => rfl))
            refine wpq_load_one rfl 3 (.tmp 15) rfl ⟨b, off + i * 3, none⟩ rfl _ a0 _ Try.underlying3 rfl ?_
            simp only [Act.put, List.setIfInBounds_toArray, List.set_cons_succ, List.set_cons_zero]
            refine wpq_load_one rfl 3 (.tmp 17) rfl ⟨xb, 0, none⟩ rfl _ d0 _ Try.underlying3 rfl ?_
            simp only [Act.put, List.setIfInBounds_toArray, List.set_cons_succ, List.set_cons_zero]
            iterate 6 (go_big_quiet_step (exact fun _ => rfl))
            refine wpq_load_w rfl 3 (.tmp 24) rfl ⟨b, off + i * 3 + 1, none⟩ rfl _ a1 _ Try.underlying3 rfl ?_
            simp only [Act.put, List.setIfInBounds_toArray, List.set_cons_succ, List.set_cons_zero]
            iterate 1 (go_big_quiet_step (exact fun _ => rfl))
            refine wpq_load_w rfl 3 (.tmp 26) rfl ⟨xb, 1, none⟩ rfl _ d1 _ Try.underlying3 rfl ?_
            simp only [Act.put, List.setIfInBounds_toArray, List.set_cons_succ, List.set_cons_zero]
            iterate 7 (go_big_quiet_step (exact fun _ => rfl))
            refine wpq_load_w rfl 33 (.tmp 34) rfl ⟨b, off + i * 3 + 2, none⟩ rfl _ a2 _ Try.underlying33 rfl ?_
            simp only [Act.put, List.setIfInBounds_toArray, List.set_cons_succ, List.set_cons_zero]
            refine wpq_string rfl 33 9 5 (.tmp 35) rfl Try.underlying33 Try.underlying5 Try.underlying9 _ _ _ rfl _ sx ?_
            simp only [Act.put, List.setIfInBounds_toArray, List.set_cons_succ, List.set_cons_zero]
            iterate 1 (go_big_quiet_step (exact fun _ => rfl))
            refine wpq_load_w rfl 33 (.tmp 37) rfl ⟨xb, 2, none⟩ rfl _ d2 _ Try.underlying33 rfl ?_
            simp only [Act.put, List.setIfInBounds_toArray, List.set_cons_succ, List.set_cons_zero]
            refine wpq_string rfl 33 9 5 (.tmp 38) rfl Try.underlying33 Try.underlying5 Try.underlying9 _ _ _ rfl _ sy ?_
            simp only [Act.put, List.setIfInBounds_toArray, List.set_cons_succ, List.set_cons_zero]
            iterate 2 (go_big_quiet_step (exact fun _ => rfl))
            refine wpQuiet_nil ?_
            clear a0 a1 a2 d0 d1 d2 sx sy
            go_wp2_with fail
            go_ret
            exact ⟨rfl, hbd.out.trans ((ab_drew wr).mono hbd.out.size)⟩
          · have hne : e ≠ d := fun x => h2 (by rw [x])
            have h2b : (e.payload == d.payload) = false := by simpa using h2
            have h2c : (e.payload.toArray == d.payload.toArray) = false := by simpa using h2
            rw [h0] at a0
            rw [h1] at a1
            clear h0 h1 h2 h0c h1c
            go_wp2_with fail
            refine wp_region_late Ab Ab.refl Ab.trans [] (.last [0, 1, 5] [2, 3, 4, 6, 7, 8, 9, 10, 11, 12, 13, 14, 15, 16, 17, 18, 19, 20, 21, 22, 23, 24, 25, 26, 27, 28, 29]) (by kernel_rfl) (by kernel_rfl) (fun _ _ _ _ _ h => h) ?_
            simp only [wpSchV, ordPick, Option.toList_some, List.cons_append, List.nil_append, List.getElem?_cons_succ, List.getElem?_cons_zero]
            iterate 3 (go_big_quiet_step (exact fun _ => rfl))
            refine wpQuiet_nil ?_
            iterate 2 (go_big_quiet_step (exact fun _ => rfl))
            refine wpq_load_one rfl 3 (.tmp 15) rfl ⟨b, off + i * 3, none⟩ rfl _ a0 _ Try.underlying3 rfl ?_
            simp only [Act.put, List.setIfInBounds_toArray, List.set_cons_succ, List.set_cons_zero]
            refine wpq_load_one rfl 3 (.tmp 17) rfl ⟨xb, 0, none⟩ rfl _ d0 _ Try.underlying3 rfl ?_
            simp only [Act.put, List.setIfInBounds_toArray, List.set_cons_succ, List.set_cons_zero]
            iterate 6 (go_big_quiet_step (exact fun _ => rfl))
            refine wpq_load_w rfl 3 (.tmp 24) rfl ⟨b, off + i * 3 + 1, none⟩ rfl _ a1 _ Try.underlying3 rfl ?_
            simp only [Act.put, List.setIfInBounds_toArray, List.set_cons_succ, List.set_cons_zero]
            iterate 1 (go_big_quiet_step (exact fun _ => rfl))
            refine wpq_load_w rfl 3 (.tmp 26) rfl ⟨xb, 1, none⟩ rfl _ d1 _ Try.underlying3 rfl ?_
            simp only [Act.put, List.setIfInBounds_toArray, List.set_cons_succ, List.set_cons_zero]
            iterate 7 (go_big_quiet_step (exact fun _ => rfl))
            refine wpq_load_w rfl 33 (.tmp 34) rfl ⟨b, off + i * 3 + 2, none⟩ rfl _ a2 _ Try.underlying33 rfl ?_
            simp only [Act.put, List.setIfInBounds_toArray, List.set_cons_succ, List.set_cons_zero]
            refine wpq_string rfl 33 9 5 (.tmp 35) rfl Try.underlying33 Try.underlying5 Try.underlying9 _ _ _ rfl _ sx ?_
            simp only [Act.put, List.setIfInBounds_toArray, List.set_cons_succ, List.set_cons_zero]
            iterate 1 (go_big_quiet_step (exact fun _ => rfl))
            refine wpq_load_w rfl 33 (.tmp 37) rfl ⟨xb, 2, none⟩ rfl _ d2 _ Try.underlying33 rfl ?_
            simp only [Act.put, List.setIfInBounds_toArray, List.set_cons_succ, List.set_cons_zero]
            refine wpq_string rfl 33 9 5 (.tmp 38) rfl Try.underlying33 Try.underlying5 Try.underlying9 _ _ _ rfl _ sy ?_
            simp only [Act.put, List.setIfInBounds_toArray, List.set_cons_succ, List.set_cons_zero]
            iterate 2 (go_big_quiet_step (exact fun _ => rfl))
            refine wpQuiet_nil ?_
            clear a0 a1 a2 d0 d1 d2 sx sy
            go_wp2_with fail
            go_roundw
            case rel => exact ⟨i + 1, by omega, by go_num, hnx.out hne, hXd.out.drew, hbd.out.trans ((ab_drew wr).mono hbd.out.size)⟩
            case measure => simp [intOf]; omega
        · have hne : e ≠ d := fun x => h1 (by rw [x])
          have h1b : (e.number == d.number) = false := by simpa using h1
          rw [h0] at a0
          clear h0 h1 h0c
          go_wp2_with fail
          refine wp_region_late Ab Ab.refl Ab.trans [] (.last [0, 1, 5] [2, 3, 4, 6, 7, 8, 9, 10, 11, 12, 13, 14, 15, 16, 17, 18, 19, 20, 21, 22, 23, 24, 25, 26, 27, 28, 29]) (by kernel_rfl) (by kernel_rfl) (fun _ _ _ _ _ h => h) ?_
          simp only [wpSchV, ordPick, Option.toList_some, List.cons_append, List.nil_append, List.getElem?_cons_succ, List.getElem?_cons_zero]
          iterate 3 (go_big_quiet_step (exact fun _ => rfl))
          refine wpQuiet_nil ?_
          iterate 2 (go_big_quiet_step (exact fun _ => rfl))
          refine wpq_load_one rfl 3 (.tmp 15) rfl ⟨b, off + i * 3, none⟩ rfl _ a0 _ Try.underlying3 rfl ?_
          simp only [Act.put, List.setIfInBounds_toArray, List.set_cons_succ, List.set_cons_zero]
          refine wpq_load_one rfl 3 (.tmp 17) rfl ⟨xb, 0, none⟩ rfl _ d0 _ Try.underlying3 rfl ?_
          simp only [Act.put, List.setIfInBounds_toArray, List.set_cons_succ, List.set_cons_zero]
          iterate 6 (go_big_quiet_step (exact fun _ => rfl))
          refine wpq_load_w rfl 3 (.tmp 24) rfl ⟨b, off + i * 3 + 1, none⟩ rfl _ a1 _ Try.underlying3 rfl ?_
          simp only [Act.put, List.setIfInBounds_toArray, List.set_cons_succ, List.set_cons_zero]
          iterate 1 (go_big_quiet_step (exact fun _ => rfl))
          refine wpq_load_w rfl 3 (.tmp 26) rfl ⟨xb, 1, none⟩ rfl _ d1 _ Try.underlying3 rfl ?_
          simp only [Act.put, List.setIfInBounds_toArray, List.set_cons_succ, List.set_cons_zero]
          iterate 14 (go_big_quiet_step (exact fun _ => rfl))
          refine wpQuiet_nil ?_
          clear a0 a1 a2 d0 d1 d2 sx sy
          go_wp2_with fail
          go_roundw
          case rel => exact ⟨i + 1, by omega, by go_num, hnx.out hne, hXd.out.drew, hbd.out.trans ((ab_drew wr).mono hbd.out.size)⟩
          case measure => simp [intOf]; omega
      · have hne : e ≠ d := fun x => h0 (by rw [x])
        have h0b : (e.origin == d.origin) = false := by simpa using h0
        clear h0
        go_wp2_with fail
        refine wp_region_late Ab Ab.refl Ab.trans [] (.last [0, 1, 5] [2, 3, 4, 6, 7, 8, 9, 10, 11, 12, 13, 14, 15, 16, 17, 18, 19, 20, 21, 22, 23, 24, 25, 26, 27, 28, 29]) (by kernel_rfl) (by kernel_rfl) (fun _ _ _ _ _ h => h) ?_
        simp only [wpSchV, ordPick, Option.toList_some, List.cons_append, List.nil_append, List.getElem?_cons_succ, List.getElem?_cons_zero]
        iterate 3 (go_big_quiet_step (exact fun _ => rfl))
        refine wpQuiet_nil ?_
        iterate 2 (go_big_quiet_step (exact fun _ => rfl))
        refine wpq_load_one rfl 3 (.tmp 15) rfl ⟨b, off + i * 3, none⟩ rfl _ a0 _ Try.underlying3 rfl ?_
        simp only [Act.put, List.setIfInBounds_toArray, List.set_cons_succ, List.set_cons_zero]
        refine wpq_load_one rfl 3 (.tmp 17) rfl ⟨xb, 0, none⟩ rfl _ d0 _ Try.underlying3 rfl ?_
        simp only [Act.put, List.setIfInBounds_toArray, List.set_cons_succ, List.set_cons_zero]
        iterate 23 (go_big_quiet_step (exact fun _ => rfl))
        refine wpQuiet_nil ?_
        clear a0 a1 a2 d0 d1 d2 sx sy
        go_wp2_with fail
        go_roundw
        case rel => exact ⟨i + 1, by omega, by go_num, hnx.out hne, hXd.out.drew, hbd.out.trans ((ab_drew wr).mono hbd.out.size)⟩
        case measure => simp [intOf]; omega
    · exfalso
      rw [List.take_of_length_le (by rw [hN'.out]; omega)] at hno
      exact hno hind.out
end Go.Proofs.Ytplijfgjdlghbaa

/-
  Two lists of deliveries that are the same.
-/
import Derived.Test.YtplijfgjdlghbaaBAwk
namespace Go.Proofs.Ytplijfgjdlghbaa
open Go.RowKit Go.Pl
set_option maxRecDepth 100000 in
set_option maxHeartbeats 2000000 in
theorem done_same (w : World) {S T : Nat → Prop} {A B : Option Addr} {n m c c' : Nat} {ds : List Bra.Del} (ha : RdE w S A n c ds) (hb : RdE w T B m c' ds) (hle : ds.length ≤ 1000000) :
    Calls Try.prog 17 #[.slice A n c, .slice B m c'] w fun e w' => e = .returned (.bool true) ∧ Below w.heap.size w w' := by
  obtain rfl : n = ds.length := ha.len
  obtain rfl : m = ds.length := hb.len
  have had := Lib.hid (ha.mono (T := fun i => i < w.heap.size) (fun i hi _ => hi))
  have hbd := Lib.hid (hb.mono (T := fun i => i < w.heap.size) (fun i hi _ => hi))
  clear ha hb
  have hnn : ∀ b : Int, (b != b) = false := fun b => by simp
  have hss : ∀ b : List UInt8, (b != b) = false := fun b => by simp
  obtain ⟨N, hN⟩ : ∃ N, ds.length = N := ⟨_, rfl⟩
  rw [hN] at had hbd hle ⊢
  have hN' := Lib.hid hN
  clear hN
  go_enter Try.func17, Try.ntmps17
  go_wp2_with fail
  go_loopw [5] (fun t5 wr => ∃ i : Nat, i ≤ N ∧ t5 = .int .i64 i ∧ Below w.heap.size w wr) (fun t5 _ => N - (intOf t5).toNat)
  case atStart => exact ⟨0, by omega, rfl, Below.refl _ _⟩
  case round =>
    obtain ⟨i, hi, rfl, hb⟩ := hrel
    by_cases hlt : i < N
    · have hltI : (i : Int) < (N : Int) := by omega
      have hil : i < ds.length := by rw [hN'.out]; exact hlt
      obtain ⟨b, off, s, rfl, hbs, -, hs, hg⟩ := had.out.get (List.getElem?_eq_getElem hil)
      obtain ⟨b2, off2, s2, rfl, hbs2, -, hs2, hg2⟩ := hbd.out.get (List.getElem?_eq_getElem hil)
      obtain ⟨d, hd⟩ : ∃ d, ds[i] = d := ⟨_, rfl⟩
      rw [hd] at hs hg hs2 hg2
      obtain ⟨Ax, nx, cx, rfl, hrx⟩ := hs
      obtain ⟨Ay, ny, cy, rfl, hry⟩ := hs2
      have up : ∀ {q : Nat} {j : Nat} {v : Value}, q < w.heap.size → w.cell? ⟨q, j, none⟩ = some v → ∀ w', Ab wr.drew w' → w'.cell? ⟨q, j, none⟩ = some v := fun hq hv w' h => ((Below.cell h (p := ⟨_, _, none⟩) (Nat.lt_of_lt_of_le hq hb.size)).trans (hb.cell (p := ⟨_, _, none⟩) hq)).trans hv
      have a0 := up hbs (hg 0 _ rfl)
      have a1 := up hbs (hg 1 _ rfl)
      have a2 := up hbs (hg 2 _ rfl)
      have b0 := up hbs2 (hg2 0 _ rfl)
      have b1 := up hbs2 (hg2 1 _ rfl)
      have b2' := up hbs2 (hg2 2 _ rfl)
      have fb : ∀ w', Ab wr.drew w' → Fr (fun i => w.heap.size ≤ i) w w' := fun w' h => (Fr.of_below (hb.mono (Nat.le_refl _))).trans (G := fun i => w.heap.size ≤ i) (Fr.of_below (F := fun i => w.heap.size ≤ i) h |> fun k => ⟨k.os, k.tape, k.output, k.size, k.block⟩) (fun _ h => .inl h)
      have sx : ∀ w', Ab wr.drew w' → Bytes w' w'.heap.size (.slice Ax nx cx) d.payload := fun w' h => (hrx.fr (fb w' h) (fun i h => by omega)).all
      have sy : ∀ w', Ab wr.drew w' → Bytes w' w'.heap.size (.slice Ay ny cy) d.payload := fun w' h => (hry.fr (fb w' h) (fun i h => by omega)).all
      have hb2 : Below w.heap.size w wr.drew := hb.trans ((ab_drew wr).mono hb.size)
      clear hg hg2 hd hrx hry up fb hb hil
      go_wp2_with fail
      refine wp_region_plan Ab Ab.refl Ab.trans [([0, 1, 2, 3, 4, 5, 6, 7, 8, 9, 10, 11, 12, 13, 14, 15, 16, 17, 18, 19, 20, 21, 22], 23), ([24, 25, 26, 27, 28, 29, 30, 31, 32, 33, 34, 35, 36, 37], 38)] [] (by kernel_rfl) (by kernel_rfl) (fun _ _ _ _ _ h => h) ?_
      simp only [wpPlan, ordPick, Option.toList_some, List.cons_append, List.nil_append, List.getElem?_cons_succ, List.getElem?_cons_zero]
      generalize wr.drew = w2 at a0 a1 a2 b0 b1 b2' sx sy hb2 ⊢
      iterate 4 (go_big_quiet_step (exact fun _ => rfl))
      refine wpq_load_one rfl 3 (.tmp 20) rfl ⟨b, off + i * 3, none⟩ rfl _ a0 _ Try.underlying3 rfl ?_
      simp only [Act.put, List.setIfInBounds_toArray, List.set_cons_succ, List.set_cons_zero]
      iterate 4 (go_big_quiet_step (exact fun _ => rfl))
      refine wpq_load_one rfl 3 (.tmp 25) rfl ⟨b2, off2 + i * 3, none⟩ rfl _ b0 _ Try.underlying3 rfl ?_
      simp only [Act.put, List.setIfInBounds_toArray, List.set_cons_succ, List.set_cons_zero]
      iterate 6 (go_big_quiet_step (exact fun _ => rfl))
      refine wpq_load_w rfl 3 (.tmp 32) rfl ⟨b, off + i * 3 + 1, none⟩ rfl _ a1 _ Try.underlying3 rfl ?_
      simp only [Act.put, List.setIfInBounds_toArray, List.set_cons_succ, List.set_cons_zero]
      iterate 4 (go_big_quiet_step (exact fun _ => rfl))
      refine wpq_load_w rfl 3 (.tmp 37) rfl ⟨b2, off2 + i * 3 + 1, none⟩ rfl _ b1 _ Try.underlying3 rfl ?_
      simp only [Act.put, List.setIfInBounds_toArray, List.set_cons_succ, List.set_cons_zero]
      iterate 1 (go_big_quiet_step (exact fun _ => rfl))
      refine wpQuiet_nil ?_
      go_wp2_with fail
      refine And.intro (Ab.refl _) ?_
      dsimp only
      iterate 5 (go_big_quiet_step (exact fun _ => rfl))
      refine wpq_load_w rfl 33 (.tmp 45) rfl ⟨b, off + i * 3 + 2, none⟩ rfl _ a2 _ Try.underlying33 rfl ?_
      simp only [Act.put, List.setIfInBounds_toArray, List.set_cons_succ, List.set_cons_zero]
      refine wpq_string rfl 33 9 5 (.tmp 46) rfl Try.underlying33 Try.underlying5 Try.underlying9 _ _ _ rfl _ sx ?_
      simp only [Act.put, List.setIfInBounds_toArray, List.set_cons_succ, List.set_cons_zero]
      iterate 4 (go_big_quiet_step (exact fun _ => rfl))
      refine wpq_load_w rfl 33 (.tmp 51) rfl ⟨b2, off2 + i * 3 + 2, none⟩ rfl _ b2' _ Try.underlying33 rfl ?_
      simp only [Act.put, List.setIfInBounds_toArray, List.set_cons_succ, List.set_cons_zero]
      refine wpq_string rfl 33 9 5 (.tmp 52) rfl Try.underlying33 Try.underlying5 Try.underlying9 _ _ _ rfl _ sy ?_
      simp only [Act.put, List.setIfInBounds_toArray, List.set_cons_succ, List.set_cons_zero]
      iterate 1 (go_big_quiet_step (exact fun _ => rfl))
      refine wpQuiet_nil ?_
      go_wp2_with fail
      refine And.intro (Ab.refl _) (wpQuiet_nil ?_)
      go_wp2_with fail
      go_roundw
      case rel => exact ⟨i + 1, by omega, by go_num, hb2⟩
      case measure => simp [intOf]; omega
    · have hltI : ¬ (i : Int) < (N : Int) := by omega
      go_wp2_with fail
      go_ret
      exact ⟨rfl, hb⟩
end Go.Proofs.Ytplijfgjdlghbaa

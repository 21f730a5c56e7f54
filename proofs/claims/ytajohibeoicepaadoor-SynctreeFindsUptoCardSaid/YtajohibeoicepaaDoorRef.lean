/-
  The reference's block function, walked: it is Sha.compress.
-/
import Derived.Test.YtajohibeoicepaaDoorProg
import Derived.Test.YtajohibeoicepaaDoorRow
import Derived.Test.YtajohibeoicepaaDoorMem
import Derived.Test.YtajohibeoicepaaDoorReg
import Derived.Test.YtajohibeoicepaaDoorLaw
import Derived.Test.YtajohibeoicepaaDoorBlk
import Derived.Deep.QuietTactic
import Derived.BigQuiet
import Derived.KernelRfl
namespace Go.Proofs.YtajohibeoicepaaDoor
open Go.RowKit Go.Pl
theorem refrotr_any (x : BitVec 32) (n : Int) (h0 : 0 ≤ n) (h1 : n ≤ 32) (w : World) :
    Calls Tryd.prog 65 #[.int .u32 (n32 x), .int .u64 n] w fun e w' => e = .returned (.int .u32 (n32 (Sha.rotr x n.toNat))) ∧ w = w' := by
  have h2 : 0 ≤ 32 - n := by omega
  have h3 : 32 - n ≤ 32 := by omega
  go_enter Tryd.func65, Tryd.ntmps65
  go_wp2
  go_ret
  have : (32 - n).toNat = 32 - n.toNat := by omega
  exact ⟨by simp [Sha.rotr, this], rfl⟩
/-- The constants as cells. -/
def kcells : Array Value := ((List.range 64).map fun t => Value.int .u32 (n32 (Sha.kw t))).toArray
theorem kcells_get (k : Nat) (h : k < 64) : kcells[k]? = some (.int .u32 (n32 (Sha.kw k))) := by
  simp [kcells, h]
theorem kcells_one : ∀ v ∈ kcells.toList, v.oneCell' = true := by
  intro v hv
  simp only [kcells] at hv
  obtain ⟨t, _, rfl⟩ := List.mem_map.1 hv
  rfl
set_option maxRecDepth 100000 in
set_option maxHeartbeats 2000000 in
theorem constants_any (w : World) :
    Calls Tryd.prog 66 #[] w fun e w' => e = .returned (.agg kcells) ∧ Below w.heap.size w w' := by
  go_enter Tryd.func66, Tryd.ntmps66
  go_wp2_with (first
    | ((with_reducible refine wpl_build _ rfl 90 _ rfl (.agg kcells) ?_ ?_); kernel_rfl)
    | ((with_reducible refine wpl_store_new _ rfl 90 (.tmp 0) (.tmp 1) rfl w.heap.size ?_ kcells ?_ 90 _ (Blk.new' rfl) ?_ ?_ kcells_one ?_); rfl; rfl; kernel_rfl; rfl; intro w1 hk hg))
  exact bodyPost_ret (results_cell_row (P := Tryd.prog) Tryd.results66 _ _ w.heap.size 90 kcells (0, 0) _ rfl hk Tryd.underlying90 rfl (by kernel_rfl)) rfl ⟨rfl, ((Below.refl _ _).alloc (Nat.le_refl _) _).grown hg (by simp) (by intro k hk; cases hk; exact Nat.le_refl _)⟩
set_option maxRecDepth 100000 in
set_option maxHeartbeats 2000000 in
theorem refblock_any (v : Sha.S8) (bs : List UInt8) (hbs : bs.length = 64) (sl : Value) (w : World) (hb : Bytes w w.heap.size sl bs) :
    Calls Tryd.prog 56 #[.agg (st v), sl] w fun e w' => e = .returned (.agg (st (Sha.compress v bs))) ∧ Below w.heap.size w w' := by
  obtain ⟨A, c, rfl, hc1, hc2, _, hc4⟩ := hb
  obtain ⟨bb, o, rfl, hlt, hcell⟩ := hc4 (by omega)
  rw [hbs] at hc1 hcell
  rw [hbs]
  go_enter Tryd.func56, Tryd.ntmps56
  go_wp2_with fail
  go_loopw [6] (fun t wr => ∃ k : Nat, k ≤ 16 ∧ t = .int .i64 k ∧ Blk wr (w.heap.size + 1 + 1) 90 (row64 (Sha.first bs k)) ∧ Blk wr w.heap.size 76 (st v) ∧ (∃ z, Blk wr (w.heap.size + 1) 76 z ∧ z.size = 8) ∧ Below w.heap.size w wr)
    (fun t _ => 16 - (intOf t).toNat)
  case atStart =>
    refine ⟨0, by omega, rfl, ?_, ?_, ⟨_, (Blk.new' (by simp)).alloc _, rfl⟩, ?_⟩
    · exact Blk.new' (by simp)
    · exact ((Blk.new' rfl).alloc _).alloc _
    · exact (((Below.refl _ _).alloc (Nat.le_refl _) _).alloc (by simp) _).alloc (by simp; omega) _
  case round =>
    obtain ⟨k, hk, rfl, hw, hv, ⟨z, hz, hz8⟩, hbel⟩ := hrel
    by_cases hlt16 : k < 16
    · have d0 : wr.cell? ⟨bb, o + 4 * k, none⟩ = some (.int .u8 ((bs.getD (4 * k) 0).toNat : Int)) := (hbel.cell (p := ⟨bb, o + 4 * k, none⟩) hlt).trans (hcell (4 * k) (by omega))
      have d1 : wr.cell? ⟨bb, o + (4 * k + 1), none⟩ = some (.int .u8 ((bs.getD (4 * k + 1) 0).toNat : Int)) := (hbel.cell (p := ⟨bb, _, none⟩) hlt).trans (hcell (4 * k + 1) (by omega))
      have d2 : wr.cell? ⟨bb, o + (4 * k + 2), none⟩ = some (.int .u8 ((bs.getD (4 * k + 2) 0).toNat : Int)) := (hbel.cell (p := ⟨bb, _, none⟩) hlt).trans (hcell (4 * k + 2) (by omega))
      have d3 : wr.cell? ⟨bb, o + (4 * k + 3), none⟩ = some (.int .u8 ((bs.getD (4 * k + 3) 0).toNat : Int)) := (hbel.cell (p := ⟨bb, _, none⟩) hlt).trans (hcell (4 * k + 3) (by omega))
      obtain ⟨u, hu⟩ := row64_any (Sha.first bs k) (by rw [Sha.length_first]; omega) (i := k) (by omega)
      have dk : wr.cell? ⟨w.heap.size + 1 + 1, k, none⟩ = some u := (hw.cell k).trans hu
      have df := hw.frozen k
      go_wp2_with fail
      refine wp_region_tail 35 (by kernel_rfl) (by kernel_rfl) (by kernel_rfl) ?_
      simp only [List.take_succ_cons, List.take_zero, List.drop_succ_cons, List.drop_zero]
      repeat (go_big_quiet_step (fail))
      refine wpQuiet_nil ?_
      go_wp2_with fail
      rw [← first_step]
      go_roundw
      case rel =>
        refine ⟨k + 1, by omega, by go_num, ?_, (hv.far (by simp; omega) _).drew, ⟨z, (hz.far (by simp) _).drew, hz8⟩, (hbel.setCell (by simp; omega) _).drew⟩
        have h := hw.set_ k (.int .u32 (n32 (Sha.word bs k)))
        rw [show (row64 (Sha.first bs k)).setIfInBounds k (.int .u32 (n32 (Sha.word bs k))) = row64 (Sha.first bs (k + 1)) by
          rw [Sha.first_succ]
          have := row64_set (Sha.first bs k) (Sha.word bs k) (by rw [Sha.length_first]; omega)
          rw [Sha.length_first] at this
          exact this] at h
        exact h.drew
      case measure => simp [intOf]; omega
    · have hk16 : Hid (k = 16) := show k = 16 by omega
      rw [hk16.out] at hw
      go_wp2_with fail
      go_loopw [7] (fun t wr => ∃ k : Nat, 16 ≤ k ∧ k ≤ 64 ∧ t = .int .i64 k ∧ Blk wr (w.heap.size + 1 + 1) 90 (row64 (Sha.grow (k - 16) (Sha.first bs 16))) ∧ Blk wr w.heap.size 76 (st v) ∧ (∃ z, Blk wr (w.heap.size + 1) 76 z ∧ z.size = 8) ∧ Below w.heap.size w wr)
        (fun t _ => 64 - (intOf t).toNat)
      case atStart => exact ⟨16, by omega, by omega, rfl, hw, hv, ⟨z, hz, hz8⟩, hbel⟩
      case round =>
        clear hw hv hz hz8 hbel hk16 hk hlt16
        obtain ⟨k, hk16, hk, rfl, hw, hv, ⟨z, hz, hz8⟩, hbel⟩ := hrel
        have hl : (Sha.grow (k - 16) (Sha.first bs 16)).length = k := by rw [Sha.length_grow, Sha.length_first]; omega
        by_cases hlt64 : k < 64
        · have hg := Sha.grow_succ (k - 16) (Sha.first bs 16)
          rw [show k - 16 + 1 = k + 1 - 16 by omega] at hg
          have HG : Hid (Sha.grow (k + 1 - 16) (Sha.first bs 16) = Sha.grow (k - 16) (Sha.first bs 16) ++ [Sha.nextWord (Sha.grow (k - 16) (Sha.first bs 16))]) := hg
          clear hg
          generalize Sha.grow (k - 16) (Sha.first bs 16) = ws at hw HG hl
          have HL : Hid (ws.length = k) := hl
          clear hl
          have g1 : wr.cell? ⟨w.heap.size + 1 + 1, k - 15, none⟩ = some (.int .u32 (n32 (ws.getD (k - 15) 0))) := (hw.cell _).trans (row64_get ws (by have := HL.out; omega))
          have g2 : wr.cell? ⟨w.heap.size + 1 + 1, k - 2, none⟩ = some (.int .u32 (n32 (ws.getD (k - 2) 0))) := (hw.cell _).trans (row64_get ws (by have := HL.out; omega))
          have g3 : wr.cell? ⟨w.heap.size + 1 + 1, k - 7, none⟩ = some (.int .u32 (n32 (ws.getD (k - 7) 0))) := (hw.cell _).trans (row64_get ws (by have := HL.out; omega))
          have g4 : wr.cell? ⟨w.heap.size + 1 + 1, k - 16, none⟩ = some (.int .u32 (n32 (ws.getD (k - 16) 0))) := (hw.cell _).trans (row64_get ws (by have := HL.out; omega))
          obtain ⟨u, hu⟩ := row64_any ws (by have := HL.out; omega) (i := k) (by omega)
          have dk : wr.cell? ⟨w.heap.size + 1 + 1, k, none⟩ = some u := (hw.cell k).trans hu
          clear hu
          have df := hw.frozen k
          go_wp2_with fail
          go_quiet (fail)
          go_wp2_with (go_at_call 65; refine (refrotr_any _ _ (by omega) (by omega) _).mono ?_; rintro e w' ⟨rfl, rfl⟩)
          refine wp_region_tail 15 (by kernel_rfl) (by kernel_rfl) (by kernel_rfl) ?_
          simp only [List.take_succ_cons, List.take_zero, List.drop_succ_cons, List.drop_zero]
          repeat (go_big_quiet_step (fail))
          refine wpQuiet_nil ?_
          go_wp2_with fail
          have HN := next_step ws k HL.out
          rw [← HN]
          go_roundw
          case rel =>
            refine ⟨k + 1, by omega, by omega, by go_num, ?_, (((hv.drewN nq).far (by simp; omega) _)).drew, ⟨z, (((hz.drewN nq).far (by simp) _)).drew, hz8⟩, ((below_drewN hbel nq).setCell (by simp; omega) _).drew⟩
            have h := (hw.drewN nq).set_ k (.int .u32 (n32 (Sha.nextWord ws)))
            rw [row64_put ws k _ HL.out hlt64, ← HG.out] at h
            exact h.drew
          case measure => simp [intOf]; omega
        · have hk64 : k = 64 := by omega
          have HW : Blk wr (w.heap.size + 1 + 1) 90 (row64 (Sha.sched bs)) := by rw [hk64] at hw; exact hw
          clear hw hl hk64
          have hs2 := HW.lt
          have hs3 := hbel.size
          go_wp2_with (first
            | (go_at_call 66; refine (constants_any _).mono ?_; rintro e w1 ⟨rfl, hcb⟩; have HW1 := HW.below hcb HW.lt; have hv1 := hv.below hcb hv.lt; have hz1 := hz.below hcb hz.lt; have hbel1 : Below w.heap.size w w1 := hbel.trans (hcb.mono (by omega)); have hs4 := hcb.size; clear HW hv hz hbel)
            | ((with_reducible refine wpl_store_new _ rfl 90 (.tmp 12) (.tmp 105) rfl _ ?_ kcells ?_ 90 _ (Blk.new' rfl) ?_ ?_ kcells_one ?_); rfl; rfl; kernel_rfl; rfl; intro w2 hk2 hg2; have HW2 := (HW1.alloc _).grown hg2 (by have := HW1.lt; simp; omega); have hv2 := (hv1.alloc _).grown hg2 (by have := hv1.lt; simp; omega); have hz2 := (hz1.alloc _).grown hg2 (by have := hz1.lt; simp; omega); have hbel2 : Below w.heap.size w w2 := (hbel1.alloc (by omega) _).grown hg2 (by simp; omega) (by intro k hk; cases hk; omega); have v0 : w2.cell? ⟨w.heap.size, 0, none⟩ = some (.int .u32 (n32 v.a)) := hv2.cell 0; have v1 : w2.cell? ⟨w.heap.size, 1, none⟩ = some (.int .u32 (n32 v.b)) := hv2.cell 1; have v2 : w2.cell? ⟨w.heap.size, 2, none⟩ = some (.int .u32 (n32 v.c)) := hv2.cell 2; have v3 : w2.cell? ⟨w.heap.size, 3, none⟩ = some (.int .u32 (n32 v.d)) := hv2.cell 3; have v4 : w2.cell? ⟨w.heap.size, 4, none⟩ = some (.int .u32 (n32 v.e)) := hv2.cell 4; have v5 : w2.cell? ⟨w.heap.size, 5, none⟩ = some (.int .u32 (n32 v.f)) := hv2.cell 5; have v6 : w2.cell? ⟨w.heap.size, 6, none⟩ = some (.int .u32 (n32 v.g)) := hv2.cell 6; have v7 : w2.cell? ⟨w.heap.size, 7, none⟩ = some (.int .u32 (n32 v.h)) := hv2.cell 7))
          clear v0 v1 v2 v3 v4 v5 v6 v7 hg2 HW1 hv1 hz1 hbel1
          have hs5 := hk2.lt
          go_loopw [14] (fun t wr => ∃ k : Nat, k ≤ 64 ∧ t = .int .i64 k ∧ Blk wr w2.heap.size 76 (st (Sha.rounds (Sha.sched bs) v k)) ∧ Blk wr w1.heap.size 90 kcells ∧ Blk wr (w.heap.size + 1 + 1) 90 (row64 (Sha.sched bs)) ∧ Blk wr w.heap.size 76 (st v) ∧ (∃ z, Blk wr (w.heap.size + 1) 76 z ∧ z.size = 8) ∧ Below w.heap.size w wr)
            (fun t _ => 64 - (intOf t).toNat)
          case atStart =>
            exact ⟨0, by omega, rfl, Blk.new' rfl, hk2.alloc _, HW2.alloc _, hv2.alloc _, ⟨z, hz2.alloc _, hz8⟩, hbel2.alloc (by omega) _⟩
          case round =>
            clear HW2 hv2 hz2 hz8 hbel2 hk2
            obtain ⟨k, hk, rfl, hu, hkc, HW, hv, ⟨z, hz, hz8⟩, hbel⟩ := hrel
            have hsl := Sha.length_sched bs
            by_cases hlt64 : k < 64
            · have HR : Hid (Sha.rounds (Sha.sched bs) v (k + 1) = Sha.round (Sha.rounds (Sha.sched bs) v k) (Sha.kw k) ((Sha.sched bs).getD k 0)) := rfl
              generalize Sha.rounds (Sha.sched bs) v k = u at hu HR
              have gk : wr.cell? ⟨w1.heap.size, k, none⟩ = some (.int .u32 (n32 (Sha.kw k))) := (hkc.cell _).trans (kcells_get k hlt64)
              have gw : wr.cell? ⟨w.heap.size + 1 + 1, k, none⟩ = some (.int .u32 (n32 ((Sha.sched bs).getD k 0))) := (HW.cell _).trans (row64_get _ (by omega))
              clear hsl
              have u0 : wr.cell? ⟨w2.heap.size, 0, none⟩ = some (.int .u32 (n32 u.a)) := hu.cell 0
              have u1 : wr.cell? ⟨w2.heap.size, 1, none⟩ = some (.int .u32 (n32 u.b)) := hu.cell 1
              have u2 : wr.cell? ⟨w2.heap.size, 2, none⟩ = some (.int .u32 (n32 u.c)) := hu.cell 2
              have u3 : wr.cell? ⟨w2.heap.size, 3, none⟩ = some (.int .u32 (n32 u.d)) := hu.cell 3
              have u4 : wr.cell? ⟨w2.heap.size, 4, none⟩ = some (.int .u32 (n32 u.e)) := hu.cell 4
              have u5 : wr.cell? ⟨w2.heap.size, 5, none⟩ = some (.int .u32 (n32 u.f)) := hu.cell 5
              have u6 : wr.cell? ⟨w2.heap.size, 6, none⟩ = some (.int .u32 (n32 u.g)) := hu.cell 6
              have u7 : wr.cell? ⟨w2.heap.size, 7, none⟩ = some (.int .u32 (n32 u.h)) := hu.cell 7
              have uf := fun i => hu.frozen i
              go_wp2_with fail
              go_quiet (fail)
              go_wp2_with (go_at_call 65; refine (refrotr_any _ _ (by omega) (by omega) _).mono ?_; rintro e w' ⟨rfl, rfl⟩)
              generalize nq = q1
              go_quiet (fail)
              go_wp2_with (go_at_call 65; refine (refrotr_any _ _ (by omega) (by omega) _).mono ?_; rintro e w' ⟨rfl, rfl⟩)
              go_roundw
              case rel =>
                refine ⟨k + 1, by omega, by go_num, ?_, ?_, ?_, ?_, ⟨z, ?_, hz8⟩, ?_⟩
                · have h := (hu.drewN (q1 + nq)).set8 (.int .u32 (n32 (Sha.t1 u (Sha.kw k) ((Sha.sched bs).getD k 0) + Sha.t2 u))) (.int .u32 (n32 u.a)) (.int .u32 (n32 u.b)) (.int .u32 (n32 u.c)) (.int .u32 (n32 (u.d + Sha.t1 u (Sha.kw k) ((Sha.sched bs).getD k 0)))) (.int .u32 (n32 u.e)) (.int .u32 (n32 u.f)) (.int .u32 (n32 u.g))
                  rw [HR.out]
                  simpa [Sha.t1, Sha.t2, st, Sha.round, set8, BitVec.add_assoc] using h
                · exact (hkc.drewN _).far8 (by omega) _ _ _ _ _ _ _ _
                · exact (HW.drewN _).far8 (by omega) _ _ _ _ _ _ _ _
                · exact (hv.drewN _).far8 (by omega) _ _ _ _ _ _ _ _
                · exact (hz.drewN _).far8 (by omega) _ _ _ _ _ _ _ _
                · exact below8 (below_drewN hbel _) (by omega) _ _ _ _ _ _ _ _
              case measure => simp [intOf]; omega
            · have hk64' : Hid (k = 64) := show k = 64 by omega
              obtain ⟨U, hU⟩ : ∃ U, Hid (Sha.rounds (Sha.sched bs) v 64 = U) := ⟨_, rfl⟩
              have HU : Blk wr w2.heap.size 76 (st U) := by rw [hk64'.out, hU.out] at hu; exact hu
              clear hu hk64' hsl HW hkc
              go_wp2_with fail
              go_loopw [22] (fun t wr => ∃ k : Nat, k ≤ 8 ∧ t = .int .i64 k ∧ Blk wr w2.heap.size 76 (mix8 v U k) ∧ Blk wr w.heap.size 76 (st v) ∧ (∃ z, Blk wr (w.heap.size + 1) 76 z ∧ z.size = 8) ∧ Below w.heap.size w wr)
                (fun t _ => 8 - (intOf t).toNat)
              case atStart => exact ⟨0, by omega, rfl, HU, hv, ⟨z, hz, hz8⟩, hbel⟩
              case round =>
                clear HU hv hz hz8 hbel
                obtain ⟨k, hk, rfl, hu, hv, ⟨z, hz, hz8⟩, hbel⟩ := hrel
                by_cases hlt8 : k < 8
                · have gv : wr.cell? ⟨w.heap.size, k, none⟩ = some (.int .u32 (n32 (nth8 v k))) := (hv.cell k).trans (st_get v k hlt8)
                  have gu : wr.cell? ⟨w2.heap.size, k, none⟩ = some (.int .u32 (n32 (nth8 U k))) := (hu.cell k).trans (mix8_get v U k hlt8)
                  have uf := hu.frozen k
                  go_wp2_with fail
                  refine wp_region_tail 8 (by kernel_rfl) (by kernel_rfl) (by kernel_rfl) ?_
                  simp only [List.take_succ_cons, List.take_zero, List.drop_succ_cons, List.drop_zero]
                  repeat (go_big_quiet_step (fail))
                  refine wpQuiet_nil ?_
                  go_wp2_with fail
                  go_roundw
                  case rel =>
                    refine ⟨k + 1, by omega, by go_num, ?_, (hv.far (by simp; omega) _).drew, ⟨z, (hz.far (by simp; omega) _).drew, hz8⟩, (hbel.setCell (by simp; omega) _).drew⟩
                    have h := hu.set_ k (.int .u32 (n32 (nth8 U k + nth8 v k)))
                    rw [mix8_set v U k hlt8] at h
                    exact h.drew
                  case measure => simp [intOf]; omega
                · have hk8 : Hid (k = 8) := show k = 8 by omega
                  have HU : Blk wr w2.heap.size 76 (st (Sha.compress v bs)) := by rw [hk8.out, mix8_end, hU.out.symm] at hu; exact hu
                  obtain ⟨R, hR⟩ : ∃ R, Hid (Sha.compress v bs = R) := ⟨_, rfl⟩
                  rw [hR.out] at HU
                  clear hu hk8 hU
                  have u0 : wr.cell? ⟨w2.heap.size, 0, none⟩ = some (.int .u32 (n32 R.a)) := HU.cell 0
                  have u1 : wr.cell? ⟨w2.heap.size, 1, none⟩ = some (.int .u32 (n32 R.b)) := HU.cell 1
                  have u2 : wr.cell? ⟨w2.heap.size, 2, none⟩ = some (.int .u32 (n32 R.c)) := HU.cell 2
                  have u3 : wr.cell? ⟨w2.heap.size, 3, none⟩ = some (.int .u32 (n32 R.d)) := HU.cell 3
                  have u4 : wr.cell? ⟨w2.heap.size, 4, none⟩ = some (.int .u32 (n32 R.e)) := HU.cell 4
                  have u5 : wr.cell? ⟨w2.heap.size, 5, none⟩ = some (.int .u32 (n32 R.f)) := HU.cell 5
                  have u6 : wr.cell? ⟨w2.heap.size, 6, none⟩ = some (.int .u32 (n32 R.g)) := HU.cell 6
                  have u7 : wr.cell? ⟨w2.heap.size, 7, none⟩ = some (.int .u32 (n32 R.h)) := HU.cell 7
                  obtain ⟨y0, y1, y2, y3, y4, y5, y6, y7, rfl⟩ := of_size8 z hz8
                  have z0 : wr.cell? ⟨w.heap.size + 1, 0, none⟩ = some y0 := hz.cell 0
                  have z1 : wr.cell? ⟨w.heap.size + 1, 1, none⟩ = some y1 := hz.cell 1
                  have z2 : wr.cell? ⟨w.heap.size + 1, 2, none⟩ = some y2 := hz.cell 2
                  have z3 : wr.cell? ⟨w.heap.size + 1, 3, none⟩ = some y3 := hz.cell 3
                  have z4 : wr.cell? ⟨w.heap.size + 1, 4, none⟩ = some y4 := hz.cell 4
                  have z5 : wr.cell? ⟨w.heap.size + 1, 5, none⟩ = some y5 := hz.cell 5
                  have z6 : wr.cell? ⟨w.heap.size + 1, 6, none⟩ = some y6 := hz.cell 6
                  have z7 : wr.cell? ⟨w.heap.size + 1, 7, none⟩ = some y7 := hz.cell 7
                  have zf := fun i => hz.frozen i
                  go_wp2_with fail
                  have H := hz.set8 (.int .u32 (n32 R.a)) (.int .u32 (n32 R.b)) (.int .u32 (n32 R.c)) (.int .u32 (n32 R.d)) (.int .u32 (n32 R.e)) (.int .u32 (n32 R.f)) (.int .u32 (n32 R.g)) (.int .u32 (n32 R.h))
                  exact bodyPost_ret (results_cell_row (P := Tryd.prog) Tryd.results56 _ _ (w.heap.size + 1) 76 _ (0, 0) _ rfl H Tryd.underlying76 rfl (by kernel_rfl)) rfl ⟨by rw [hR.out]; rfl, below8 hbel (by omega) _ _ _ _ _ _ _ _⟩
end Go.Proofs.YtajohibeoicepaaDoor

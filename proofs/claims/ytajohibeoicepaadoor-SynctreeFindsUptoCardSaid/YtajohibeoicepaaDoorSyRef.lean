/-
  The reference's encoding of a command, walked: bare, Encode.
-/
import Derived.Test.YtajohibeoicepaaDoorSyEn
import Derived.Test.YtajohibeoicepaaDoorSyRW
import Derived.Test.YtajohibeoicepaaDoorSyRVal
import Derived.Test.YtajohibeoicepaaDoorOrdS
namespace Go.Proofs.YtajohibeoicepaaDoor
open Go.RowKit Go.Pl
/-- The cells of a command. -/
abbrev cmb (x : Sy.Cm) (A : Option Addr) (n c : Nat) (C : Option Addr) (m d : Nat) : Array Value := #[.int .i64 x.client, .int .i64 x.seq, .int .i64 x.kind, .slice A n c, .int .i64 x.replica, .slice C m d]
theorem gave_rd {w w' : World} {bs : List UInt8} {A : Option Addr} {n c : Nat} (h : w'.ownsRow w.heap.size 5 1 (.slice A n c) n (bs.map u8v)) : Rd w' (fun i => w.heap.size ≤ i) A n c bs := (own_rd h).mono (fun i _ hi => (own_lt h i hi).1)
set_option maxRecDepth 100000 in
set_option maxHeartbeats 2000000 in
theorem rbare_any (x : Sy.Cm) (w : World) {A C : Option Addr} {n c m d : Nat} (hx : RdE lWt w (fun _ => True) A n c x.writes) (hz : Sy.csz x ≤ 30000000) :
    Calls Tryd.prog 54 #[.slice none 0 0, .agg (cmb x A n c C m d)] w fun e w' => ∃ D l k, e = .returned (.slice D l k) ∧ Rd w' (fun i => w.heap.size ≤ i) D l k (Sy.bare x) ∧ Below w.heap.size w w' := by
  have hxd := Lib.hid hx
  have hnl := Lib.hid hx.len
  have hzd := Lib.hid hz
  clear hx hz
  go_enter Tryd.func54, Tryd.ntmps54
  go_wp2_with fail
  obtain ⟨w1, hw1⟩ : ∃ w1, w.alloc (.cells (cmb x A n c C m d) 39) = w1 := ⟨_, rfl⟩
  have hX1 : Hid (Blk w1 w.heap.size 39 (cmb x A n c C m d)) := by show Blk _ _ _ _; rw [← hw1]; exact Blk.new' rfl
  have hb1 : Hid (Below w.heap.size w w1) := by show Below _ _ _; rw [← hw1]; exact (Below.refl _ w).alloc (Nat.le_refl _) _
  rw [hw1]
  clear hw1
  refine wp_region_late Ab Ab.refl Ab.trans [] (.one [0, 1, 4, 7] [2, 5, 8] 3 (.one [] [] 6 (.one [] [] 9 (.last [10] [])))) (by kernel_rfl) (by kernel_rfl) (fun _ _ _ _ _ h => h) ?_
  simp only [wpSchV, ordPick, Option.toList_some, List.cons_append, List.nil_append, List.getElem?_cons_succ, List.getElem?_cons_zero]
  have hbd : Hid (Ab w1 w1.drew) := ab_drew w1
  obtain ⟨w2, hw2⟩ : ∃ w2, w1.drew = w2 := ⟨_, rfl⟩
  rw [hw2] at hbd ⊢
  clear hw2
  have hb2 : Hid (Below w.heap.size w w2) := hb1.out.trans (hbd.out.mono hb1.out.size)
  have hX2 : Hid (Blk w2 w.heap.size 39 (cmb x A n c C m d)) := hX1.out.fr (Fr.of_below (F := fun _ => False) hbd.out) (fun h => h)
  have c0 : ∀ w', Ab w2 w' → w'.cell? ⟨w.heap.size, 0, none⟩ = some (.int .i64 x.client) := fun w' h => ((hX2.out.fr (Fr.of_below (F := fun _ => False) h) (fun h => h)).cell 0).trans rfl
  have c1 : ∀ w', Ab w2 w' → w'.cell? ⟨w.heap.size, 1, none⟩ = some (.int .i64 x.seq) := fun w' h => ((hX2.out.fr (Fr.of_below (F := fun _ => False) h) (fun h => h)).cell 1).trans rfl
  have c2 : ∀ w', Ab w2 w' → w'.cell? ⟨w.heap.size, 2, none⟩ = some (.int .i64 x.kind) := fun w' h => ((hX2.out.fr (Fr.of_below (F := fun _ => False) h) (fun h => h)).cell 2).trans rfl
  iterate 4 (go_big_quiet_step (exact fun _ => rfl))
  refine wpQuiet_nil ?_
  refine wpq_load_one rfl 3 (.tmp 8) rfl ⟨w.heap.size, 0, none⟩ rfl _ c0 _ Tryd.underlying3 rfl ?_
  simp only [Act.put, List.setIfInBounds_toArray, List.set_cons_succ, List.set_cons_zero]
  refine wpq_load_one rfl 3 (.tmp 11) rfl ⟨w.heap.size, 1, none⟩ rfl _ c1 _ Tryd.underlying3 rfl ?_
  simp only [Act.put, List.setIfInBounds_toArray, List.set_cons_succ, List.set_cons_zero]
  refine wpq_load_one rfl 3 (.tmp 14) rfl ⟨w.heap.size, 2, none⟩ rfl _ c2 _ Tryd.underlying3 rfl ?_
  simp only [Act.put, List.setIfInBounds_toArray, List.set_cons_succ, List.set_cons_zero]
  refine wpQuiet_nil ?_
  clear c0 c1 c2
  go_wp2_with fail
  have hN : Rd w2 (fun _ => True) none 0 0 [] := ⟨rfl, Nat.le_refl _, by simp [maxLen], fun _ => rfl, fun h => by omega⟩
  refine (refint_any x.client x.client.2.1 x.client.2.2 w2 hN (by simp)).mono ?_
  rintro e w3 ⟨D3, l3, k3, hn3, rfl, ho3, hb3⟩
  have hb3d : Hid (Ab w2 w3) := hb3
  have hr3 := Lib.hid (gave_rd ho3)
  clear ho3 hb3 hn3 hN
  go_wp2_with fail
  refine And.intro (.inr hb3d.out) ?_
  simp only
  refine wpQuiet_nil (wpQuiet_nil ?_)
  go_wp2_with fail
  refine (refint_any x.seq x.seq.2.1 x.seq.2.2 w3 (hr3.out.mono (fun _ _ _ => trivial)) (by have := Wire.length_int x.client; simp; omega)).mono ?_
  rintro e w4 ⟨D4, l4, k4, hn4, rfl, ho4, hb4⟩
  have hb4d : Hid (Ab w3 w4) := hb4
  have hr4 := Lib.hid (gave_rd ho4)
  clear ho4 hb4 hn4 hr3
  go_wp2_with fail
  refine And.intro (.inr hb4d.out) ?_
  simp only
  refine wpQuiet_nil (wpQuiet_nil ?_)
  go_wp2_with fail
  refine (refint_any x.kind x.kind.2.1 x.kind.2.2 w4 (hr4.out.mono (fun _ _ _ => trivial)) (by have := Wire.length_int x.client; have := Wire.length_int x.seq; simp; omega)).mono ?_
  rintro e w5 ⟨D5, l5, k5, hn5, rfl, ho5, hb5⟩
  have hb5d : Hid (Ab w4 w5) := hb5
  have hr5 := Lib.hid (gave_rd ho5)
  have hb25 : Hid (Ab w2 w5) := Ab.trans _ _ _ hb3d.out (Ab.trans _ _ _ hb4d.out hb5)
  clear ho5 hb5 hn5 hr4
  go_wp2_with fail
  refine And.intro (.inr hb5d.out) ?_
  simp only
  iterate 1 (go_big_quiet_step (exact fun _ => rfl))
  refine wpQuiet_nil (wpQuiet_nil ?_)
  have hX5 := hX2.out.fr (Fr.of_below (F := fun _ => False) hb25.out) (fun h => h)
  have c3 : w5.cell? ⟨w.heap.size, 3, none⟩ = some (.slice A n c) := (hX5.cell 3).trans rfl
  clear hX5 hb3d hb4d hb5d
  go_wp2_with fail
  clear c3
  refine (refuint_any (BitVec.ofNat 64 n) w5 (hr5.out.mono (fun _ _ _ => trivial)) (by have := Wire.length_int x.client; have := Wire.length_int x.seq; have := Wire.length_int x.kind; simp; omega)).mono ?_
  rintro e w6 ⟨D6, l6, k6, hn6, rfl, ho6, hb6⟩
  have hb06 : Hid (Below w.heap.size w w6) := (hb2.out.trans (hb25.out.mono hb2.out.size)).trans (hb6.mono (hb2.out.trans (hb25.out.mono hb2.out.size)).size)
  have hb16 : Hid (Ab w1 w6) := Ab.trans _ _ _ hbd.out (Ab.trans _ _ _ hb25.out hb6)
  have hr6 : Hid (Rd w6 (fun i => w.heap.size ≤ i) D6 l6 k6 (Sy.head x)) := by
    have h := (gave_rd ho6).mono (T := fun i => w.heap.size ≤ i) (fun i _ h => Nat.le_trans (Nat.le_trans hb2.out.size hb25.out.size) h)
    have e : [] ++ Wire.int x.client.val ++ Wire.int x.seq.val ++ Wire.int x.kind.val ++ Wire.uint (BitVec.ofNat 64 n) = Sy.head x := by rw [Sy.head, ← hnl.out, List.nil_append]
    rw [e] at h
    exact h
  clear ho6 hb6 hn6 hr5 hb25
  go_wp2_with fail
  have hnm : n ≤ 30000000 := by have := Sy.wsz_len x.writes; have := hnl.out; have := hzd.out; simp only [Sy.csz] at *; omega
  go_loopw [6, 5] (fun t u wr => ∃ (k : Nat) (D : Option Addr) (l d : Nat), k ≤ n ∧ t = .int .i64 k ∧ u = .slice D l d ∧ Rd wr (fun i => w.heap.size ≤ i) D l d (Sy.head x ++ Sy.wts (x.writes.take k)) ∧ Ab w1 wr) (fun t u _ => n - (intOf t).toNat)
  case atStart => exact ⟨0, D6, l6, k6, Nat.zero_le _, rfl, rfl, by simpa [Sy.wts] using hr6.out, hb16.out⟩
  case round =>
    obtain ⟨k, D, l, dk, hk, rfl, rfl, hr, hb⟩ := hrel
    have hrd := Lib.hid hr
    have hbr := Lib.hid hb
    have hbw : Hid (Below w.heap.size w wr) := hb1.out.trans (hbr.out.mono hb1.out.size)
    have hXr : Hid (Blk wr w.heap.size 39 (cmb x A n c C m d)) := hX1.out.fr (Fr.of_below (F := fun _ => False) hbr.out) (fun h => h)
    have c3 : wr.cell? ⟨w.heap.size, 3, none⟩ = some (.slice A n c) := (hXr.out.cell 3).trans rfl
    have hlen := Lib.hid (wlen hzd.out k)
    clear hr hb
    by_cases hlt : k < n
    · have hkl : k < x.writes.length := by have := hnl.out; omega
      obtain ⟨y, hy⟩ : ∃ y, x.writes[k]? = some y := ⟨_, List.getElem?_eq_getElem hkl⟩
      obtain ⟨b, o, u, rfl, hbB, hbl, ⟨A2, n2, c2, rfl, hr2⟩, hcell⟩ := (hxd.out.fr (Fr.of_below (F := fun _ => False) hbw.out) (fun i _ h => h)).get hy
      have e0 : wr.cell? ⟨b, o + k * 2, none⟩ = some (.string ⟨y.object.toArray⟩) := hcell 0 _ rfl
      have e1 : wr.cell? ⟨b, o + k * 2 + 1, none⟩ = some (.slice A2 n2 c2) := hcell 1 _ rfl
      have hyd := Lib.hid hy
      have hr2d := Lib.hid hr2
      have hkd := Lib.hid hlt
      have hyl : Hid (y.object.length + y.delta.length ≤ 30000000) := by have := Sy.wsz_get hyd.out; have := hzd.out; show _ ≤ _; simp only [Sy.csz] at *; omega
      have e0d := Lib.hid e0
      have e1d := Lib.hid e1
      clear hcell hr2 hy hkl hbB e0 e1
      go_wp2_with fail
      clear c3
      refine wp_region_late Ab Ab.refl Ab.trans [] (.one [0, 1, 3, 8, 10] [2, 4, 5, 6, 9, 11, 12, 13] 7 (.one [] [] 14 (.last [15] []))) (by kernel_rfl) (by kernel_rfl) (fun _ _ _ _ _ h => h) ?_
      simp only [wpSchV, ordPick, Option.toList_some, List.cons_append, List.nil_append, List.getElem?_cons_succ, List.getElem?_cons_zero]
      have hbd2 : Hid (Ab wr wr.drew) := ab_drew wr
      obtain ⟨w7, hw7⟩ : ∃ w7, wr.drew = w7 := ⟨_, rfl⟩
      rw [hw7] at hbd2 ⊢
      clear hw7
      have hX7 : Hid (Blk w7 w.heap.size 39 (cmb x (some ⟨b, o, none⟩) n c C m d)) := hXr.out.fr (Fr.of_below (F := fun _ => False) hbd2.out) (fun h => h)
      have c3 : ∀ w', Ab w7 w' → w'.cell? ⟨w.heap.size, 3, none⟩ = some (.slice (some ⟨b, o, none⟩) n c) := fun w' h => ((hX7.out.fr (Fr.of_below (F := fun _ => False) h) (fun h => h)).cell 3).trans rfl
      have g0 : ∀ w', Ab w7 w' → w'.cell? ⟨b, o + k * 2, none⟩ = some (.string ⟨y.object.toArray⟩) := fun w' h => (Below.cell (Ab.trans _ _ _ hbd2.out h) (p := ⟨b, _, none⟩) hbl).trans e0d.out
      have g1 : ∀ w', Ab w7 w' → w'.cell? ⟨b, o + k * 2 + 1, none⟩ = some (.slice A2 n2 c2) := fun w' h => (Below.cell (Ab.trans _ _ _ hbd2.out h) (p := ⟨b, _, none⟩) hbl).trans e1d.out
      iterate 5 (go_big_quiet_step (exact fun _ => rfl))
      refine wpQuiet_nil ?_
      refine wpq_load_one rfl 37 (.tmp 31) rfl ⟨w.heap.size, 3, none⟩ rfl _ c3 _ Tryd.underlying37 rfl ?_
      simp only [Act.put, List.setIfInBounds_toArray, List.set_cons_succ, List.set_cons_zero]
      iterate 2 (go_big_quiet_step (exact fun _ => rfl))
      refine wpq_load_one rfl 9 (.tmp 35) rfl ⟨b, o + k * 2, none⟩ rfl _ g0 _ Tryd.underlying9 rfl ?_
      simp only [Act.put, List.setIfInBounds_toArray, List.set_cons_succ, List.set_cons_zero]
      refine wpq_load_one rfl 37 (.tmp 38) rfl ⟨w.heap.size, 3, none⟩ rfl _ c3 _ Tryd.underlying37 rfl ?_
      simp only [Act.put, List.setIfInBounds_toArray, List.set_cons_succ, List.set_cons_zero]
      iterate 2 (go_big_quiet_step (exact fun _ => rfl))
      refine wpq_load_one rfl 23 (.tmp 42) rfl ⟨b, o + k * 2 + 1, none⟩ rfl _ g1 _ Tryd.underlying23 rfl ?_
      simp only [Act.put, List.setIfInBounds_toArray, List.set_cons_succ, List.set_cons_zero]
      refine wpQuiet_nil ?_
      clear c3 g0 g1
      go_wp2_with fail
      refine (reftext_any y.object w7 ((hrd.out.ab hbd2.out).mono (fun _ _ _ => trivial)) (by have := hlen.out; have := hyl.out; omega)).mono ?_
      rintro e w8 ⟨D8, l8, k8, hn8, rfl, ho8, hb8⟩
      have hb8d : Hid (Ab w7 w8) := hb8
      have hr8 : Hid (Rd w8 (fun i => w.heap.size ≤ i) D8 l8 k8 (Sy.head x ++ Sy.wts (x.writes.take k) ++ Sy.bts y.object)) := by
        have h := (gave_rd ho8).mono (T := fun i => w.heap.size ≤ i) (fun i _ h => Nat.le_trans (Nat.le_trans hbw.out.size hbd2.out.size) h)
        rw [List.append_assoc _ (Wire.uint _)] at h
        exact h
      clear ho8 hb8 hn8
      go_wp2_with fail
      refine And.intro (.inr hb8d.out) ?_
      simp only
      refine wpQuiet_nil (wpQuiet_nil ?_)
      go_wp2_with fail
      refine (refbytes_any y.delta w8 (hr8.out.mono (fun _ _ _ => trivial)) (((hr2d.out.ab hbd2.out).ab hb8d.out).mono (fun _ _ _ => trivial)) (by have := hlen.out; have := hyl.out; have := Sy.length_bts y.object; simp only [List.length_append] at *; omega)).mono ?_
      rintro e w9 ⟨D9, l9, k9, hn9, rfl, ho9, hb9⟩
      have hb9d : Hid (Ab w8 w9) := hb9
      have hr9 : Hid (Rd w9 (fun i => w.heap.size ≤ i) D9 l9 k9 (Sy.head x ++ Sy.wts (x.writes.take (k + 1)))) := by
        have h := (gave_rd ho9).mono (T := fun i => w.heap.size ≤ i) (fun i _ h => Nat.le_trans (Nat.le_trans (Nat.le_trans hbw.out.size hbd2.out.size) hb8d.out.size) h)
        have e : Sy.head x ++ Sy.wts (x.writes.take (k + 1)) = Sy.head x ++ Sy.wts (x.writes.take k) ++ Sy.bts y.object ++ Wire.uint (BitVec.ofNat 64 y.delta.length) ++ y.delta := by
          rw [Sy.wts_take hyd.out]; simp only [Sy.bts, List.append_assoc]
        show Rd _ _ _ _ _ _
        rw [e]
        exact h
      clear ho9 hb9 hn9 hr8
      go_wp2_with fail
      refine And.intro (.inr hb9d.out) ?_
      simp only
      iterate 1 (go_big_quiet_step (exact fun _ => rfl))
      refine wpQuiet_nil (wpQuiet_nil ?_)
      go_wp2_with fail
      go_roundw
      case rel => exact ⟨k + 1, D9, l9, k9, by omega, by go_num, rfl, hr9.out, Ab.trans _ _ _ hbr.out (Ab.trans _ _ _ hbd2.out (Ab.trans _ _ _ hb8d.out hb9d.out))⟩
      case measure => simp [intOf]; omega
    · have hkn := Lib.hid (show k = n by omega)
      have c4 : wr.cell? ⟨w.heap.size, 4, none⟩ = some (.int .i64 x.replica) := (hXr.out.cell 4).trans rfl
      go_wp2_with fail
      clear c3 c4
      refine (refint_any x.replica x.replica.2.1 x.replica.2.2 wr (hrd.out.mono (fun _ _ _ => trivial)) (by have := hlen.out; omega)).mono ?_
      rintro e w7 ⟨D7, l7, k7, hn7, rfl, ho7, hb7⟩
      clear hn7
      go_wp2_with fail
      go_returns
      have h := (gave_rd ho7).mono (T := fun i => w.heap.size ≤ i) (fun i _ h => Nat.le_trans hbw.out.size h)
      have e : x.writes.take k = x.writes := by rw [hkn.out, hnl.out]; exact List.take_length
      rw [e] at h
      exact ⟨D7, l7, k7, rfl, h, hbw.out.trans (hb7.mono hbw.out.size)⟩
set_option maxRecDepth 100000 in
theorem renc_any (x : Sy.Cm) (w : World) {A C : Option Addr} {n c m d : Nat} (hx : RdE lWt w (fun _ => True) A n c x.writes) (ht : Rd w (fun _ => True) C m d x.tag) (hz : Sy.csz x ≤ 30000000) :
    Calls Tryd.prog 39 #[.agg (cmb x A n c C m d)] w fun e w' => ∃ D l k, e = .returned (.slice D l k) ∧ Rd w' (fun i => w.heap.size ≤ i) D l k (Sy.enc x) ∧ Below w.heap.size w w' := by
  have hxd := Lib.hid hx
  have htd := Lib.hid ht
  have hzd := Lib.hid hz
  clear hx ht hz
  go_enter Tryd.func39, Tryd.ntmps39
  go_wp2_with fail
  obtain ⟨w1, hw1⟩ : ∃ w1, w.alloc (.cells (cmb x A n c C m d) 39) = w1 := ⟨_, rfl⟩
  have hX1 : Hid (Blk w1 w.heap.size 39 (cmb x A n c C m d)) := by show Blk _ _ _ _; rw [← hw1]; exact Blk.new' rfl
  have hb1 : Hid (Below w.heap.size w w1) := by show Below _ _ _; rw [← hw1]; exact (Below.refl _ w).alloc (Nat.le_refl _) _
  rw [hw1]
  clear hw1
  refine wp_region_late Ab Ab.refl Ab.trans [] (.one [2] [0, 3] 1 (.one [] [] 4 (.last [5] []))) (by kernel_rfl) (by kernel_rfl) (fun _ _ _ _ _ h => h) ?_
  simp only [wpSchV, ordPick, Option.toList_some, List.cons_append, List.nil_append, List.getElem?_cons_succ, List.getElem?_cons_zero]
  have hbd : Hid (Ab w1 w1.drew) := ab_drew w1
  obtain ⟨w2, hw2⟩ : ∃ w2, w1.drew = w2 := ⟨_, rfl⟩
  rw [hw2] at hbd ⊢
  clear hw2
  have hb2 : Hid (Below w.heap.size w w2) := hb1.out.trans (hbd.out.mono hb1.out.size)
  have hX2 : ∀ w', Ab w2 w' → Blk w' w.heap.size 39 (cmb x A n c C m d) := fun w' h => (hX1.out.fr (Fr.of_below (F := fun _ => False) hbd.out) (fun h => h)).fr (Fr.of_below (F := fun _ => False) h) (fun h => h)
  have c5 : ∀ w', Ab w2 w' → w'.cell? ⟨w.heap.size, 5, none⟩ = some (.slice C m d) := fun w' h => ((hX2 w' h).cell 5).trans rfl
  iterate 1 (go_big_quiet_step (exact fun _ => rfl))
  refine wpQuiet_nil ?_
  refine wpq_load_partw rfl 39 (.tmp 1) rfl w.heap.size 0 rfl 39 _ hX2 (cmb x A n c C m d) rfl _ Tryd.underlying39 rfl (by kernel_rfl) ?_
  simp only [Act.put, List.setIfInBounds_toArray, List.set_cons_succ, List.set_cons_zero]
  refine wpq_load_one rfl 23 (.tmp 5) rfl ⟨w.heap.size, 5, none⟩ rfl _ c5 _ Tryd.underlying23 rfl ?_
  simp only [Act.put, List.setIfInBounds_toArray, List.set_cons_succ, List.set_cons_zero]
  refine wpQuiet_nil ?_
  clear hX2 c5
  have hf2 := Fr.of_below (F := fun _ => False) hb2.out
  go_wp2_with fail
  refine (rbare_any x w2 (hxd.out.fr hf2 (fun _ _ h => h)) hzd.out).mono ?_
  rintro e w3 ⟨D3, l3, k3, rfl, hr3, hb3⟩
  have hb3d : Hid (Ab w2 w3) := hb3
  have hb03 : Hid (Below w.heap.size w w3) := hb2.out.trans (hb3.mono hb2.out.size)
  have hr3d := Lib.hid hr3
  clear hr3 hb3 hf2
  go_wp2_with fail
  refine And.intro (.inr hb3d.out) ?_
  simp only
  refine wpQuiet_nil (wpQuiet_nil ?_)
  go_wp2_with fail
  refine (refbytes_any x.tag w3 (hr3d.out.mono (fun _ _ _ => trivial)) (htd.out.fr (Fr.of_below (F := fun _ => False) hb03.out) (fun _ _ h => h)) (by have := hzd.out; have := Sy.length_bare x; simp only [Sy.csz] at *; omega)).mono ?_
  rintro e w4 ⟨D4, l4, k4, hn4, rfl, ho4, hb4⟩
  have hb4d : Hid (Ab w3 w4) := hb4
  have hr4 : Hid (Rd w4 (fun i => w.heap.size ≤ i) D4 l4 k4 (Sy.enc x)) := by
    have h := (gave_rd ho4).mono (T := fun i => w.heap.size ≤ i) (fun i _ h => Nat.le_trans hb03.out.size h)
    rw [List.append_assoc] at h
    exact h
  clear ho4 hb4 hn4
  go_wp2_with fail
  refine And.intro (.inr hb4d.out) ?_
  simp only
  iterate 1 (go_big_quiet_step (exact fun _ => rfl))
  refine wpQuiet_nil (wpQuiet_nil ?_)
  go_wp2_with fail
  go_returns
  exact ⟨D4, l4, k4, rfl, hr4.out, hb03.out.trans (hb4d.out.mono hb03.out.size)⟩
end Go.Proofs.YtajohibeoicepaaDoor

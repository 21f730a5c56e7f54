/-
  Differ, walked.
-/
import Derived.Test.YtajohibeoicepaaDoorSyKid
import Derived.Test.YtajohibeoicepaaDoorSyQ
namespace Go.Proofs.YtajohibeoicepaaDoor
open Go.RowKit Go.Pl
/-- What differ does with at most m digits more. -/
def DifOk (m : Nat) : Prop := ∀ (w : World) (A1 A2 P : Option Addr) (n1 c1 n2 c2 pn pc : Nat) (a b : List Sy.Cm) (ps : List UInt8) (_ : Kst w) (_ : RdE lCm w (fun i => i < w.heap.size) A1 n1 c1 a) (_ : RdE lCm w (fun i => i < w.heap.size) A2 n2 c2 b) (_ : n1 ≤ 16) (_ : n2 ≤ 16) (_ : ∀ x ∈ a, Sy.csz x ≤ 1000) (_ : ∀ x ∈ b, Sy.csz x ≤ 1000)
    (_ : Rd w (fun i => i < w.heap.size) P pn pc ps) (_ : pn + m = 2001),
    Calls Tryd.prog 43 #[.slice A1 n1 c1, .slice A2 n2 c2, .slice P pn pc] w fun e w' => ∃ A' n' c', e = .returned (.slice A' n' c') ∧ RdE lBytes w' (fun i => w.heap.size ≤ i) A' n' c' (Sy.diff (m + 1) a b ps) ∧ Below w.heap.size w w'
theorem diff_same {m : Nat} {a b : List Sy.Cm} {ps : List UInt8} (h : Sy.same (Sy.dig a ps) (Sy.dig b ps) = true) : Sy.diff (m + 1) a b ps = [] := by rw [Sy.diff, if_pos h]
theorem diff_few {m : Nat} {a b : List Sy.Cm} {ps : List UInt8} (h : ¬ Sy.same (Sy.dig a ps) (Sy.dig b ps) = true) (h4 : (Sy.part ps a).length ≤ 4 ∨ (Sy.part ps b).length ≤ 4) : Sy.diff (m + 1) a b ps = [ps] := by rw [Sy.diff, if_neg h, if_pos h4]
theorem diff_more {m : Nat} {a b : List Sy.Cm} {ps : List UInt8} (h : ¬ Sy.same (Sy.dig a ps) (Sy.dig b ps) = true) (h4 : ¬ ((Sy.part ps a).length ≤ 4 ∨ (Sy.part ps b).length ≤ 4)) : Sy.diff (m + 1) a b ps = Sy.diffT m a b ps 16 := by rw [Sy.diff, if_neg h, if_neg h4]; rfl
set_option maxRecDepth 100000 in
theorem differ_step (m : Nat) (ih : ∀ m', m = m' + 1 → DifOk m') : DifOk m := by
  intro w A1 A2 P n1 c1 n2 c2 pn pc a b ps hK ha hb hn1 hn2 hza hzb hp hm
  have hKd := Lib.hid hK
  have had := Lib.hid ha
  have hbd := Lib.hid hb
  have hpd := Lib.hid hp
  have hzad := Lib.hid hza
  have hzbd := Lib.hid hzb
  have hnd := Lib.hid (And.intro hn1 hn2)
  have hmd := Lib.hid hm
  have ihd := Lib.hid ih
  clear hK ha hb hn1 hn2 hza hzb hp hm ih
  go_enter Tryd.func43, Tryd.ntmps43
  go_wp2_with fail
  refine (digest_any w hKd.out had.out hnd.out.1 (fun x h => Nat.le_trans (hzad.out x h) (by decide)) hpd.out (by have := hmd.out; omega)).mono ?_
  rintro e w1 ⟨P1, p1, q1, D1, d1, e1, rfl, hp1, hs1, hb1⟩
  have hb1d := Lib.hid hb1
  have hp1d := Lib.hid hp1
  have hs1d := Lib.hid hs1
  clear hp1 hs1 hb1
  obtain ⟨Z1, hZ1⟩ : ∃ Z : Int, ((Sy.part ps a).length : Int) = Z := ⟨_, rfl⟩
  have hZ1d := Lib.hid hZ1
  rw [hZ1]
  clear hZ1
  go_wp2_with fail
  have hf1 := Fr.of_below (F := fun _ => False) hb1d.out
  refine (digest_any w1 (hKd.out.below hb1d.out hKd.out.pos) ((hbd.out.fr hf1 (fun _ _ h => h)).mono (fun i hi _ => hi)) hnd.out.2 (fun x h => Nat.le_trans (hzbd.out x h) (by decide)) ((hpd.out.fr hf1 (fun _ _ h => h)).mono (fun i hi _ => hi)) (by have := hmd.out; omega)).mono ?_
  rintro e w2 ⟨P2, p2, q2, D2, d2, e2, rfl, hp2, hs2, hb2⟩
  have hb2d := Lib.hid hb2
  have hb02 : Hid (Below w.heap.size w w2) := hb1d.out.trans (hb2.mono hb1d.out.size)
  have hs2d := Lib.hid hs2
  clear hp2 hs2 hb2 hf1
  obtain ⟨Z2, hZ2⟩ : ∃ Z : Int, ((Sy.part ps b).length : Int) = Z := ⟨_, rfl⟩
  have hZ2d := Lib.hid hZ2
  rw [hZ2]
  clear hZ2
  go_wp2_with fail
  obtain ⟨w3, hw3⟩ : ∃ w3, (w2.alloc (.cells #[.slice P1 p1 q1, .slice D1 d1 e1, .int .i64 Z1] 30)).alloc (.cells #[.slice P2 p2 q2, .slice D2 d2 e2, .int .i64 Z2] 30) = w3 := ⟨_, rfl⟩
  have hb3 : Hid (Below w2.heap.size w2 w3) := by show Below _ _ _; rw [← hw3]; exact ((Below.refl _ _).alloc (Nat.le_refl _) _).alloc (by simp) _
  have hX : Hid (Blk w3 w2.heap.size 30 #[.slice P1 p1 q1, .slice D1 d1 e1, .int .i64 Z1]) := by show Blk _ _ _ _; rw [← hw3]; exact (Blk.new' rfl).alloc _
  have hY : Hid (Blk w3 (w2.heap.size + 1) 30 #[.slice P2 p2 q2, .slice D2 d2 e2, .int .i64 Z2]) := by show Blk _ _ _ _; rw [← hw3]; exact Blk.new' (by simp)
  rw [hw3]
  clear hw3
  have hf3 := Fr.of_below (F := fun _ => False) hb3.out
  have hs13 : Hid (Rd w3 (fun _ => True) D1 d1 e1 (Sha.sha (Sy.body (Sy.part ps a)))) := ((hs1d.out.fr (Fr.of_below (F := fun _ => False) hb2d.out) (fun _ _ h => h)).fr hf3 (fun _ _ h => h)).mono (fun _ _ _ => trivial)
  have hs23 : Hid (Rd w3 (fun _ => True) D2 d2 e2 (Sha.sha (Sy.body (Sy.part ps b)))) := (hs2d.out.fr hf3 (fun _ _ h => h)).mono (fun _ _ _ => trivial)
  have hb03 : Hid (Below w.heap.size w w3) := hb02.out.trans (hb3.out.mono hb02.out.size)
  clear hf3
  refine (match_any w3 (z1 := Z1) (z2 := Z2) hs13.out hs23.out).mono ?_
  rintro e w4 ⟨rfl, hb4⟩
  have hb4d := Lib.hid hb4
  have hb04 : Hid (Below w.heap.size w w4) := hb03.out.trans (hb4.mono hb03.out.size)
  have hm4 : Hid ((decide (Z1 = Z2) && Sha.sha (Sy.body (Sy.part ps a)) == Sha.sha (Sy.body (Sy.part ps b))) = Sy.same (Sy.dig a ps) (Sy.dig b ps)) := by show _ = _; rw [← hZ1d.out, ← hZ2d.out]; rfl
  rw [hm4.out]
  clear hb4 hs13 hs23 hs1d hs2d hm4
  by_cases hsm : Sy.same (Sy.dig a ps) (Sy.dig b ps) = true
  · rw [hsm]
    have hd := Lib.hid (diff_same (m := m) hsm)
    clear hsm
    go_wp2_with fail
    go_returns
    exact ⟨none, 0, 0, rfl, by rw [hd.out]; exact RdE.nil _ _ _, hb04.out⟩
  · have hsf := Lib.hid hsm
    rw [(Bool.not_eq_true _).mp hsm]
    have hX4 : Blk w4 w2.heap.size _ _ := hX.out.fr (Fr.of_below (F := fun _ => False) (hb4d.out)) (fun h => h)
    have hY4 : Blk w4 (w2.heap.size + 1) _ _ := hY.out.fr (Fr.of_below (F := fun _ => False) (hb4d.out)) (fun h => h)
    have x0 : w4.cell? ⟨w2.heap.size, 0, none⟩ = some (.slice P1 p1 q1) := (hX4.cell 0).trans rfl
    have x2 : w4.cell? ⟨w2.heap.size, 2, none⟩ = some (.int .i64 Z1) := (hX4.cell 2).trans rfl
    have y2 : w4.cell? ⟨w2.heap.size + 1, 2, none⟩ = some (.int .i64 Z2) := (hY4.cell 2).trans rfl
    clear hsm hX4 hY4
    by_cases h4 : (Sy.part ps a).length ≤ 4 ∨ (Sy.part ps b).length ≤ 4
    · have hd := Lib.hid (diff_few (m := m) hsf.out h4)
      obtain ⟨Mn, hMn⟩ : ∃ Mn : Int, (if Z2 < Z1 then Z2 else Z1) = Mn := ⟨_, rfl⟩
      have h4' : Mn ≤ 4 := by have := hZ1d.out; have := hZ2d.out; omega
      clear h4
      go_wp2_with fail
      go_returns
      have hf := (Fr.refl (fun _ => False) w4).alloc (.cells #[.slice P1 p1 q1] 23)
      have hY := Row.new w4 23 #[.slice P1 p1 q1] (sz := 1) (n := 1) _ rfl rfl (by decide)
      have hp4 := ((hp1d.out.fr (Fr.of_below (F := fun _ => False) hb2d.out) (fun _ _ h => h)).fr (Fr.of_below (F := fun _ => False) hb3.out) (fun _ _ h => h)).fr (Fr.of_below (F := fun _ => False) hb4d.out) (fun _ _ h => h)
      refine ⟨_, _, _, rfl, ?_, hb04.out.alloc hb04.out.size _⟩
      rw [hd.out]
      exact ⟨_, hY.mono (fun i _ h => by rw [h]; exact hb04.out.size), Els.single ⟨_, _, _, rfl, hp4.fr hf (fun _ _ h => h)⟩⟩
    · have hd := Lib.hid (diff_more (m := m) hsf.out h4)
      have hm0 : 0 < m := by
        have := Sy.part_short (p := ps) hzad.out (by omega)
        have := hpd.out.len
        have := hmd.out
        omega
      obtain ⟨m, rfl⟩ : ∃ m', m = m' + 1 := ⟨m - 1, by omega⟩
      obtain ⟨Mn, hMn⟩ : ∃ Mn : Int, (if Z2 < Z1 then Z2 else Z1) = Mn := ⟨_, rfl⟩
      have h4' : ¬ Mn ≤ 4 := by have := hZ1d.out; have := hZ2d.out; omega
      have hlen : Hid (∀ k, k ≤ 16 → (Sy.diffT (m + 1) a b ps k).length ≤ 32) := fun k hk => by
        have h1 := Sy.diffT_le (m + 1) a b ps k hk
        have h2 := Sy.part_len ps a
        have h3 := Sy.part_len ps b
        have := had.out.len
        have := hbd.out.len
        have := hnd.out
        omega
      have ih' := Lib.hid (ihd.out m rfl)
      clear h4 hm0 ihd
      go_wp2_with fail
      clear hMn h4' x0 x2 y2
      go_loopw [29, 9] (fun t u wr => ∃ (k : Nat) (B : Option Addr) (j d : Nat), k ≤ 16 ∧ t = .int .u8 (k : Int) ∧ u = .slice B j d ∧ OwnX lBytes wr (fun i => w.heap.size ≤ i) w.heap.size 23 u j (Sy.diffT (m + 1) a b ps k) ∧ Below w.heap.size w wr) (fun t u _ => 16 - (intOf t).toNat)
      case atStart => exact ⟨0, none, 0, 0, by omega, rfl, rfl, OwnX.nil _ _ _ _ _, hb04.out⟩
      case round =>
        obtain ⟨k, B, j, d, hk, rfl, rfl, ho, hb⟩ := hrel
        have hbrd := Lib.hid hb
        have hod := Lib.hid ho
        clear hb ho
        by_cases hlt : k < 16
        · have hy : Hid (((UInt8.ofNat k).toNat : Int) = (k : Int)) := by show _ = _; rw [UInt8.toNat_ofNat']; omega
          have hf := Fr.of_below (F := fun _ => False) hbrd.out
          go_wp2_with fail
          have hL := longer_any wr (P := P) (pn := pn) (pc := pc) (ps := ps) (UInt8.ofNat k) ((hpd.out.fr hf (fun _ _ h => h)).mono (fun i hi _ => hi)) (by have := hmd.out; omega)
          rw [hy.out] at hL
          refine hL.mono ?_
          rintro e v1 ⟨D, pm, c3, rfl, hr1, hb1⟩
          have hbv1 := Lib.hid hb1
          have hr1d := Lib.hid hr1
          have hbw1 : Hid (Below w.heap.size w v1) := hbrd.out.trans (hb1.mono hbrd.out.size)
          have hm1 : Hid (pm = pn + 1) := by show _ = _; rw [hr1.len, hpd.out.len]; simp
          clear hr1 hb1 hf hL
          go_wp2_with fail
          have hf1 := Fr.of_below (F := fun _ => False) hbw1.out
          refine (ih'.out v1 A1 A2 D n1 c1 n2 c2 pm c3 a b (ps ++ [UInt8.ofNat k]) (hKd.out.below hbw1.out hKd.out.pos) ((had.out.fr hf1 (fun _ _ h => h)).mono (fun i hi _ => hi)) ((hbd.out.fr hf1 (fun _ _ h => h)).mono (fun i hi _ => hi)) hnd.out.1 hnd.out.2 hzad.out hzbd.out (hr1d.out.mono (fun i hi _ => hi)) (by have := hm1.out; have := hmd.out; omega)).mono ?_
          rintro e v2 ⟨A9, n9, c9, rfl, hr9, hb9⟩
          have hbw2 : Hid (Below w.heap.size w v2) := hbw1.out.trans (hb9.mono hbw1.out.size)
          have hbr2 : Hid (Below wr.heap.size wr v2) := hbv1.out.trans (hb9.mono hbv1.out.size)
          have hs12 : Hid (wr.heap.size ≤ v1.heap.size) := hbv1.out.size
          have hl9 : Hid (n9 + j ≤ 32) := by
            have h1 := hlen.out (k + 1) (by omega)
            rw [Sy.diffT_succ, List.length_append] at h1
            have h2 := hr9.len
            have h3 := hod.out.len
            show _ ≤ _
            omega
          obtain ⟨vs, o2, hE2⟩ := hod.out.up hbr2.out
          have hE2d := Lib.hid hE2
          have hown2 := Lib.hid o2
          have hlt4 : ∀ g, (Value.slice B j d).ownBlock = some g → g < wr.heap.size := fun g e => (own_lt hod.out.choose_spec.1 g e).2
          obtain ⟨us, r9, hE9⟩ := hr9
          have hE9d : Hid (Els lBytes v2 (fun i => w.heap.size ≤ i ∧ (Value.slice B j d).ownBlock ≠ some i) (Sy.diff (m + 1) a b (ps ++ [UInt8.ofNat k])) us) := hE9.mono (fun i _ h => ⟨Nat.le_trans hbw1.out.size h, fun e => by have := hlt4 i e; have := hs12.out; omega⟩)
          have on9 := hE9.ones
          have hs2 := hbw2.out.size
          have hlj : (j + n9) * 24 ≤ 140737488355328 := by have := hl9.out; omega
          clear hf1 hb9 hE2 hE9 hlt4
          go_wp2_with (at_builtin; refine wpl_app rfl (.tmp 32) (.tmp 38) 44 rfl w.heap.size 23 _ 1 24 Tryd.underlying44 infoBs rfl (by decide) (by decide) _ rfl j vs o2 _ _ n9 c9 rfl _ r9 on9 hlj hs2 (j + n9) rfl ?h2)
          case h2 =>
            intro A5 c5 w5 o5 g5 b5
            have hb5 : Hid (Below w.heap.size w w5) := app_below hbw2.out g5 (fun k e => (own_lt o2 k e).1) hs2
            have hX : Hid (OwnX lBytes w5 (fun i => w.heap.size ≤ i) w.heap.size 23 (.slice A5 (j + n9) c5) (j + n9) (Sy.diffT (m + 1) a b ps (k + 1))) := by
              show OwnX _ _ _ _ _ _ _ _
              rw [Sy.diffT_succ]
              exact OwnX.app hE2d.out hE9d.out o5 g5 b5
            clear o2 r9 on9 hs2 o5 g5 b5 hlj
            go_wp2_with fail
            go_roundw
            case rel => exact ⟨k + 1, A5, j + n9, c5, by omega, by go_num, rfl, hX.out, hb5.out⟩
            case measure => simp [intOf]; omega
        · obtain rfl : k = 16 := by omega
          go_wp2_with fail
          go_returns
          exact ⟨B, j, d, rfl, by rw [hd.out]; exact hod.out.rd.mono (fun i _ h => h.elim id id), hbrd.out⟩
theorem differ_any : ∀ m, DifOk m
  | 0 => differ_step 0 fun m' h => by omega
  | m + 1 => differ_step (m + 1) fun m' h => by cases h; exact differ_any m
set_option maxRecDepth 100000 in
theorem diffs_any (w : World) {A1 A2 : Option Addr} {n1 c1 n2 c2 : Nat} {a b : List Sy.Cm} (hK : Kst w) (ha : RdE lCm w (fun i => i < w.heap.size) A1 n1 c1 a) (hb : RdE lCm w (fun i => i < w.heap.size) A2 n2 c2 b) (hn1 : n1 ≤ 16) (hn2 : n2 ≤ 16) (hza : ∀ x ∈ a, Sy.csz x ≤ 1000) (hzb : ∀ x ∈ b, Sy.csz x ≤ 1000) :
    Calls Tryd.prog 25 #[.slice A1 n1 c1, .slice A2 n2 c2] w fun e w' => ∃ A' n' c', e = .returned (.slice A' n' c') ∧ RdE lBytes w' (fun i => w.heap.size ≤ i) A' n' c' (Sy.diff 2002 a b []) ∧ Below w.heap.size w w' := by
  go_enter Tryd.func25, Tryd.ntmps25
  go_wp2_with fail
  obtain ⟨w1, hw1⟩ : ∃ w1, w.alloc (.cells #[] 5) = w1 := ⟨_, rfl⟩
  have hb1 : Below w.heap.size w w1 := by rw [← hw1]; exact (Below.refl _ _).alloc (Nat.le_refl _) _
  have hr : Rd w1 (fun i => i < w1.heap.size) (some ⟨w.heap.size, 0, none⟩) 0 0 [] := ⟨rfl, Nat.le_refl _, by simp [maxLen], (fun e => by cases e), fun h => by omega⟩
  have hf := Fr.of_below (F := fun _ => False) hb1
  rw [hw1]
  refine (differ_any 2001 w1 A1 A2 (some ⟨w.heap.size, 0, none⟩) n1 c1 n2 c2 0 0 a b [] (hK.below hb1 hK.pos) ((ha.fr hf (fun _ _ h => h)).mono (fun i hi _ => hi)) ((hb.fr hf (fun _ _ h => h)).mono (fun i hi _ => hi)) hn1 hn2 hza hzb hr rfl).mono ?_
  rintro e w2 ⟨A', n', c', rfl, hr2, hb2⟩
  go_wp2_with fail
  go_returns
  exact ⟨A', n', c', rfl, hr2.mono (fun i _ h => Nat.le_trans hb1.size h), hb1.trans (hb2.mono hb1.size)⟩
end Go.Proofs.YtajohibeoicepaaDoor

/-
  The reference's State, walked.
-/
import Derived.Test.YtajohibeoicepaaDoorSyCmp
import Derived.Deep.CutRange
namespace Sy
/-- A command of a state. -/
def OkCm (x : Cm) : Prop := x.writes.length ≤ 4 ∧ x.tag.length ≤ 40 ∧ ∀ (k : Nat) (v : Wt), x.writes[k]? = some v → v.delta.length ≤ 40 ∧ v.object.length ≤ 16
def OkI (s : List Cm) (i : Nat) : Prop := ∃ x, s[i]? = some x ∧ OkCm x ∧ (0 < i → ∀ y, s[i - 1]? = some y → cmp y x < 0)
/-- A state of at most 16 commands. -/
def State (s : List Cm) : Prop := s.length ≤ 16 ∧ ∀ i, i < s.length → OkI s i
end Sy
namespace Go.Proofs.YtajohibeoicepaaDoor
open Go.RowKit Go.Pl
theorem bool_not {r : Bool} {p : Prop} (hr : r = true ↔ p) (h : ¬ p) : r = false := by
  cases hrr : r with
  | false => rfl
  | true => exact absurd (hr.1 hrr) h
set_option maxRecDepth 100000 in
set_option maxHeartbeats 4000000 in
theorem state_any (s : List Sy.Cm) (w : World) {A : Option Addr} {n c : Nat} (hs : RdE lCm w (fun _ => True) A n c s) (hz : ∀ x ∈ s, Sy.csz x ≤ 30000000) (r : Bool) (hr : r = true ↔ Sy.State s) :
    Calls Tryd.prog 10 #[.slice A n c, .int .i64 16] w fun e w' => e = .returned (.bool r) ∧ Below w.heap.size w w' := by
  have hsd := Lib.hid hs
  have hzd := Lib.hid hz
  have hnl := Lib.hid hs.len
  have hrd := Lib.hid hr
  clear hs hz hr
  by_cases h16 : n ≤ 16
  · have h16' : ¬ (16 : Int) < (n : Int) := by omega
    go_enter Tryd.func10, Tryd.ntmps10
    go_wp2_with fail
    go_loopw [5] (fun t wr => ∃ k : Nat, k ≤ n ∧ t = .int .i64 k ∧ (∀ j, j < k → Sy.OkI s j) ∧ Below w.heap.size w wr) (fun t _ => n - (intOf t).toNat)
    case atStart => exact ⟨0, Nat.zero_le _, rfl, fun j h => by omega, Below.refl _ _⟩
    case round =>
      obtain ⟨k, hk, rfl, hok, hb⟩ := hrel
      have hokd := Lib.hid hok
      have hbr := Lib.hid hb
      clear hok hb
      by_cases hlt : k < n
      · have hkl : k < s.length := by have := hnl.out; omega
        obtain ⟨x, hx⟩ : ∃ x, s[k]? = some x := ⟨_, List.getElem?_eq_getElem hkl⟩
        obtain ⟨b, o, A1, n1, c1, B1, m1, d1, rfl, hbl, hr1, hr2, hg⟩ := cm_at (hsd.out.fr (Fr.of_below (F := fun _ => False) hbr.out) (fun _ _ h => h)) hx
        have hxd := Lib.hid hx
        have hgd := Lib.hid (And.intro hg hbl)
        have hr1d := Lib.hid hr1
        have hr2d := Lib.hid hr2
        have hn1 := Lib.hid hr1.len
        have hm1 := Lib.hid hr2.len
        have hltd := Lib.hid hlt
        have hzx : Hid (Sy.csz x ≤ 30000000) := hzd.out x (List.mem_of_getElem? hx)
        have hno : Hid (¬ Sy.OkI s k → r = false) := fun h => bool_not hrd.out (fun hS => h (hS.2 k hkl))
        clear hx hg hbl hr1 hr2 hkl
        have hn16 := Lib.hid h16
        go_upto_region 6 with fail
        go_cut [49] from 11 to 83 (fun s49 wx => ∃ bad : Bool, s49 = .bool bad ∧ (bad = true → ¬ Sy.OkI s k) ∧ (bad = false → x.writes.length ≤ 4 ∧ x.tag.length ≤ 40 ∧ (0 < k → ∀ y, s[k - 1]? = some y → Sy.cmp y x < 0)) ∧ Ab wr wx)
        case first =>
          refine wp_region_late Ab Ab.refl Ab.trans [] (.one [0, 1] [2, 3, 4, 5, 6, 7, 8, 9, 10, 11, 12, 13, 14, 15, 16, 17, 18, 19, 20, 21, 22, 23, 24, 25, 26, 27, 28] 29 (.last [30, 31, 32] [])) (by kernel_rfl) (by kernel_rfl) (fun _ _ _ _ _ h => h) ?_
          simp only [wpSchV, ordPick, Option.toList_some, List.cons_append, List.nil_append, List.getElem?_cons_succ, List.getElem?_cons_zero]
          have hbd2 : Hid (Ab wr wr.drew) := ab_drew wr
          have hbw2 : Hid (Below w.heap.size w wr.drew) := hbr.out.trans (hbd2.out.mono hbr.out.size)
          obtain ⟨w7, hw7⟩ : ∃ w7, wr.drew = w7 := ⟨_, rfl⟩
          rw [hw7] at hbd2 hbw2 ⊢
          clear hw7
          have g3 : ∀ w', Ab w7 w' → w'.cell? ⟨b, o + k * 6 + 3, none⟩ = some (.slice A1 n1 c1) := fun w' h => (range_ab hgd.out.1 hgd.out.2 (Ab.trans _ _ _ hbd2.out h)) 3 _ rfl
          have g5 : ∀ w', Ab w7 w' → w'.cell? ⟨b, o + k * 6 + 5, none⟩ = some (.slice B1 m1 d1) := fun w' h => (range_ab hgd.out.1 hgd.out.2 (Ab.trans _ _ _ hbd2.out h)) 5 _ rfl
          iterate 2 (go_big_quiet_step (exact fun _ => rfl))
          refine wpQuiet_nil ?_
          iterate 2 (go_big_quiet_step (exact fun _ => rfl))
          refine wpq_load_one rfl 37 (.tmp 20) rfl ⟨b, o + k * 6 + 3, none⟩ rfl _ g3 _ Tryd.underlying37 rfl ?_
          simp only [Act.put, List.setIfInBounds_toArray, List.set_cons_succ, List.set_cons_zero]
          iterate 1 (go_big_quiet_step (exact fun _ => rfl))
          by_cases h4 : n1 ≤ 4
          · have h4I : decide ((4 : Int) < (n1 : Int)) = false := by simp; omega
            iterate 6 (go_big_quiet_step (exact fun _ => rfl))
            refine wpq_load_w rfl 23 (.tmp 28) rfl ⟨b, o + k * 6 + 5, none⟩ rfl _ g5 _ Tryd.underlying23 rfl ?_
            simp only [Act.put, List.setIfInBounds_toArray, List.set_cons_succ, List.set_cons_zero]
            iterate 1 (go_big_quiet_step (exact fun _ => rfl))
            by_cases h40 : m1 ≤ 40
            · have h40I : decide ((40 : Int) < (m1 : Int)) = false := by simp; omega
              by_cases hk0 : k = 0
              · have hk0d := Lib.hid hk0
                have hk0I : decide ((0 : Int) < (k : Int)) = false := by simp; omega
                have hk0J : decide (0 < k) = false := by simp; omega
                clear hk0
                iterate 3 (go_big_quiet_step (exact fun _ => rfl))
                iterate 3 (go_big_quiet_step (exact fun _ => rfl))
                iterate 9 (go_big_quiet_step (exact fun _ => rfl))
                refine wpQuiet_nil ?_
                go_wp2_with fail
                refine And.intro (.inr (Ab.refl _)) ?_
                simp only
                iterate 3 (go_big_quiet_step (exact fun _ => rfl))
                refine wpQuiet_nil (wpQuiet_nil ?_)
                go_wp2_with fail
                go_meet
                exact ⟨false, rfl, (fun h => by cases h), fun _ => ⟨by have := hn1.out; omega, by have := hm1.out; omega, fun h => by have := hk0d.out; omega⟩, hbd2.out⟩
              · have hk0I : decide ((0 : Int) < (k : Int)) = true := by simp; omega
                have hk0J : decide (0 < k) = true := by simp; omega
                iterate 3 (go_big_quiet_step (exact fun _ => rfl))
                iterate 3 (go_big_quiet_step (exact fun _ => rfl))
                have hkk : Hid (k - 1 < s.length ∧ k - 1 < n) := by have := hltd.out; have := hnl.out; show _ ∧ _; omega
                obtain ⟨y, hy⟩ : ∃ y, s[k - 1]? = some y := ⟨_, List.getElem?_eq_getElem hkk.out.1⟩
                obtain ⟨b', o', P1, p1, q1, T1, t1, u1, hA, hblz, hy1, hy2, hgy⟩ := cm_at (hsd.out.fr (Fr.of_below (F := fun _ => False) hbr.out) (fun _ _ h => h)) hy
                cases hA
                have hyd := Lib.hid hy
                have hy1d := Lib.hid (And.intro hy1 hy2)
                have hgyd := Lib.hid (And.intro hgy hblz)
                have hzy : Hid (Sy.csz y ≤ 30000000) := hzd.out y (List.mem_of_getElem? hy)
                have hi1 : IntKind.i64.wrap ((k : Int) - 1) = ((k - 1 : Nat) : Int) := by
                  have := hltd.out
                  have := hn16.out
                  rw [IntKind.wrap_i64]; omega
                have hi3 : ((k - 1 : Nat) : Int) < n := by have := hkk.out; omega
                have hi4 : k - 1 < n := hkk.out.2
                have gx : ∀ w', Ab w7 w' → w'.rangeAt b (o + k * 6) [.int .i64 x.client, .int .i64 x.seq, .int .i64 x.kind, .slice A1 n1 c1, .int .i64 x.replica, .slice B1 m1 d1] := fun w' h => range_ab hgd.out.1 hgd.out.2 (Ab.trans _ _ _ hbd2.out h)
                have gy : ∀ w', Ab w7 w' → w'.rangeAt b (o + (k - 1) * 6) [.int .i64 y.client, .int .i64 y.seq, .int .i64 y.kind, .slice P1 p1 q1, .int .i64 y.replica, .slice T1 t1 u1] := fun w' h => range_ab hgyd.out.1 hgyd.out.2 (Ab.trans _ _ _ hbd2.out h)
                clear hy hy1 hy2 hgy hblz
                iterate 4 (go_big_quiet_step (exact fun _ => rfl))
                refine wpq_load_midw rfl 39 (.tmp 40) rfl b (o + (k - 1) * 6) rfl _ gy _ Tryd.underlying39 rfl (by kernel_rfl) ?_
                simp only [Act.put, List.setIfInBounds_toArray, List.set_cons_succ, List.set_cons_zero]
                iterate 3 (go_big_quiet_step (exact fun _ => rfl))
                refine wpq_load_midw rfl 39 (.tmp 44) rfl b (o + k * 6) rfl _ gx _ Tryd.underlying39 rfl (by kernel_rfl) ?_
                simp only [Act.put, List.setIfInBounds_toArray, List.set_cons_succ, List.set_cons_zero]
                refine wpQuiet_nil ?_
                clear gx gy
                have hfw := Fr.of_below (F := fun _ => False) hbd2.out
                go_wp2_with fail
                refine (cmp_any y x w7 (hy1d.out.1.fr hfw (fun _ _ h => h)) (hy1d.out.2.ab hbd2.out) hzy.out (hr1d.out.fr hfw (fun _ _ h => h)) (hr2d.out.ab hbd2.out) hzx.out).mono ?_
                rintro e w8 ⟨rfl, hb8⟩
                have hb8d : Hid (Ab w7 w8) := hb8
                have hbr8 : Hid (Ab wr w8) := Ab.trans _ _ _ hbd2.out hb8
                obtain ⟨z, hz0⟩ : ∃ z, Sy.cmp y x = z := ⟨_, rfl⟩
                have hzd0 := Lib.hid hz0
                rw [hz0]
                clear hb8 hfw hz0
                by_cases hz1 : 0 ≤ z
                · have hz1I : decide (0 ≤ z) = true := decide_eq_true hz1
                  go_wp2_with fail
                  refine And.intro (.inr hb8d.out) ?_
                  simp only
                  iterate 3 (go_big_quiet_step (exact fun _ => rfl))
                  refine wpQuiet_nil (wpQuiet_nil ?_)
                  go_wp2_with fail
                  go_meet
                  refine ⟨true, rfl, fun _ => ?_, (fun h => by cases h), hbr8.out⟩
                  rintro ⟨x', k1, -, k3⟩
                  have := hxd.out
                  rw [k1] at this
                  cases this
                  have := k3 (by omega) y hyd.out
                  have := hzd0.out
                  omega
                · have hz1I : decide (0 ≤ z) = false := decide_eq_false hz1
                  go_wp2_with fail
                  refine And.intro (.inr hb8d.out) ?_
                  simp only
                  iterate 3 (go_big_quiet_step (exact fun _ => rfl))
                  refine wpQuiet_nil (wpQuiet_nil ?_)
                  go_wp2_with fail
                  go_meet
                  refine ⟨false, rfl, (fun h => by cases h), fun _ => ⟨by have := hn1.out; omega, by have := hm1.out; omega, fun _ y' hy' => ?_⟩, hbr8.out⟩
                  have := hyd.out
                  rw [hy'] at this
                  cases this
                  have := hzd0.out
                  omega
            · have h40I : decide ((40 : Int) < (m1 : Int)) = true := by simp; omega
              iterate 3 (go_big_quiet_step (exact fun _ => rfl))
              iterate 12 (go_big_quiet_step (exact fun _ => rfl))
              refine wpQuiet_nil ?_
              go_wp2_with fail
              refine And.intro (.inr (Ab.refl _)) ?_
              simp only
              iterate 3 (go_big_quiet_step (exact fun _ => rfl))
              refine wpQuiet_nil (wpQuiet_nil ?_)
              go_wp2_with fail
              go_meet
              refine ⟨true, rfl, fun _ => ?_, (fun h => by cases h), hbd2.out⟩
              rintro ⟨x', k1, ⟨-, k2, -⟩, -⟩
              have := hxd.out
              rw [k1] at this
              cases this
              have := hm1.out
              omega
          · have h4I : decide ((4 : Int) < (n1 : Int)) = true := by simp; omega
            iterate 2 (go_big_quiet_step (exact fun _ => rfl))
            iterate 7 (go_big_quiet_step (exact fun _ => rfl))
            iterate 2 (go_big_quiet_step (exact fun _ => rfl))
            iterate 12 (go_big_quiet_step (exact fun _ => rfl))
            refine wpQuiet_nil ?_
            go_wp2_with fail
            refine And.intro (.inr (Ab.refl _)) ?_
            simp only
            iterate 3 (go_big_quiet_step (exact fun _ => rfl))
            refine wpQuiet_nil (wpQuiet_nil ?_)
            go_wp2_with fail
            go_meet
            refine ⟨true, rfl, fun _ => ?_, (fun h => by cases h), hbd2.out⟩
            rintro ⟨x', k1, ⟨k2, -, -⟩, -⟩
            have := hxd.out
            rw [k1] at this
            cases this
            have := hn1.out
            omega
        case rest =>
          obtain ⟨bad, rfl, hbad, hgood, hbc⟩ := hcut
          have hbwc : Hid (Below w.heap.size w wc) := hbr.out.trans (Below.mono hbc hbr.out.size)
          cases bad with
          | true =>
            have hbd := hno.out (hbad rfl)
            have hbdd := Lib.hid hbd
            clear hbad hgood hbc hbd
            go_wp2_with fail
            go_returns
            exact ⟨by rw [hbdd.out]; rfl, hbwc.out⟩
          | false =>
            have hgoodd := Lib.hid (hgood rfl)
            have hgc := range_ab hgd.out.1 hgd.out.2 hbc
            have e3 : wc.cell? ⟨b, o + k * 6 + 3, none⟩ = some (.slice A1 n1 c1) := hgc 3 _ rfl
            have hr1c : Hid (RdE lWt wc (fun _ => True) A1 n1 c1 x.writes) := hr1d.out.fr (Fr.of_below (F := fun _ => False) hbc) (fun _ _ h => h)
            have hn14 : n1 ≤ 4 := by have := hn1.out; have := hgoodd.out.1; omega
            clear hbad hgood hbc hgc
            go_wp2_with fail
            go_loopw [6] (fun t wv => ∃ j : Nat, j ≤ n1 ∧ t = .int .i64 j ∧ (∀ i v, i < j → x.writes[i]? = some v → v.delta.length ≤ 40 ∧ v.object.length ≤ 16) ∧ wv = wc) (fun t _ => n1 - (intOf t).toNat)
            case atStart => exact ⟨0, Nat.zero_le _, rfl, fun i v h => by omega, rfl⟩
            case round =>
              obtain ⟨j, hj, rfl, hall, rfl⟩ := hrel
              have halld := Lib.hid hall
              clear hall
              by_cases hjl : j < n1
              · have hjx : j < x.writes.length := by have := hn1.out; omega
                obtain ⟨v, hv⟩ : ∃ v, x.writes[j]? = some v := ⟨_, List.getElem?_eq_getElem hjx⟩
                obtain ⟨b2, o2, u, rfl, -, hbl2, ⟨A2, n2, c2, rfl, hr2v⟩, hcell⟩ := hr1c.out.get hv
                have d0 : wr.cell? ⟨b2, o2 + j * 2, none⟩ = some (.string ⟨v.object.toArray⟩) := hcell 0 _ rfl
                have d1 : wr.cell? ⟨b2, o2 + j * 2 + 1, none⟩ = some (.slice A2 n2 c2) := hcell 1 _ rfl
                have hvd := Lib.hid hv
                have hn2 := Lib.hid hr2v.len
                have hsz : (ByteArray.mk v.object.toArray).size = v.object.length := rfl
                obtain ⟨z, hz0⟩ : ∃ z, v.object.length = z := ⟨_, rfl⟩
                rw [hz0] at hsz
                have hzd0 := Lib.hid hz0
                clear hv hcell hr2v hbl2 hjx hz0
                by_cases hd40 : n2 ≤ 40
                · have hd40I : decide ((40 : Int) < (n2 : Int)) = false := by simp; omega
                  have hd40J : ¬ (40 : Int) < (n2 : Int) := by omega
                  by_cases ho16 : z ≤ 16
                  · have ho16I : decide ((16 : Int) < (z : Int)) = false := by simp; omega
                    have ho16J : ¬ (16 : Int) < (z : Int) := by omega
                    go_wp2_with fail
                    go_roundw
                    case rel =>
                      refine ⟨j + 1, by omega, by go_num, fun i v' hi hv' => ?_, trivial⟩
                      by_cases hij : i < j
                      · exact halld.out i v' hij hv'
                      · obtain rfl : i = j := by omega
                        have := hvd.out
                        rw [hv'] at this
                        cases this
                        have := hn2.out
                        have := hzd0.out
                        omega
                    case measure => simp [intOf]; omega
                  · have ho16I : decide ((16 : Int) < (z : Int)) = true := by simp; omega
                    have ho16J : (16 : Int) < (z : Int) := by omega
                    go_wp2_with fail
                    go_returns
                    refine ⟨?_, hbwc.out⟩
                    rw [hno.out (by
                      rintro ⟨x', k1, ⟨-, -, k3⟩, -⟩
                      have := hxd.out
                      rw [k1] at this
                      cases this
                      have := (k3 j v hvd.out).2
                      have := hzd0.out
                      omega)]
                    rfl
                · have hd40I : decide ((40 : Int) < (n2 : Int)) = true := by simp; omega
                  have hd40J : (40 : Int) < (n2 : Int) := by omega
                  go_wp2_with fail
                  go_returns
                  refine ⟨?_, hbwc.out⟩
                  rw [hno.out (by
                    rintro ⟨x', k1, ⟨-, -, k3⟩, -⟩
                    have := hxd.out
                    rw [k1] at this
                    cases this
                    have := (k3 j v hvd.out).1
                    have := hn2.out
                    omega)]
                  rfl
              · have hjn := Lib.hid (show j = n1 by omega)
                go_wp2_with fail
                go_roundw
                case rel =>
                  refine ⟨k + 1, by have := hltd.out; omega, by go_num, fun i hi => ?_, hbwc.out⟩
                  by_cases hik : i < k
                  · exact hokd.out i hik
                  · obtain rfl : i = k := by omega
                    refine ⟨x, hxd.out, ⟨hgoodd.out.1, hgoodd.out.2.1, fun i' v hv => ?_⟩, hgoodd.out.2.2⟩
                    exact halld.out i' v (by have := (List.getElem?_eq_some_iff.1 hv).1; have := hjn.out; have := hn1.out; omega) hv
                case measure => simp [intOf]; omega
      · have hkn := Lib.hid (show k = n by omega)
        go_wp2_with fail
        go_returns
        have : r = true := hrd.out.2 ⟨by have := hnl.out; omega, fun i hi => hokd.out i (by have := hkn.out; have := hnl.out; omega)⟩
        exact ⟨by rw [this]; rfl, hbr.out⟩
  · have h16' : (16 : Int) < (n : Int) := by omega
    go_enter Tryd.func10, Tryd.ntmps10
    go_wp2_with fail
    go_returns
    have : r = false := bool_not hrd.out (fun h => by have := h.1; have := hnl.out; omega)
    exact ⟨by rw [this]; rfl, Below.refl _ _⟩
end Go.Proofs.YtajohibeoicepaaDoor

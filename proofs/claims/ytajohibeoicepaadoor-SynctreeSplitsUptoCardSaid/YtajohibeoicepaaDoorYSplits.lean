/-
  A part with at least two commands consists of the 16 parts one digit longer, and their counts add up.
-/
import Derived.Test.YtajohibeoicepaaDoorSyArg
import Derived.Test.YtajohibeoicepaaDoorSyAwk
import Derived.Test.YtajohibeoicepaaDoorSyKid
import Derived.Test.YtajohibeoicepaaDoorSyHas
import Derived.Test.YtajohibeoicepaaDoorSyEnc
import Derived.Test.YtajohibeoicepaaDoorSyRKid
namespace Go.Proofs.YtajohibeoicepaaDoor.synctreeSplits
open Go.ChangeShapes Go.WideShapes Go.ChangeAt Go.RowKit Go.Pl
/-- The commands of the part one digit longer. -/
def cnt (l : List Sy.Cm) (ps : List UInt8) (i : Nat) : Nat := (Sy.part (ps ++ [UInt8.ofNat i]) l).length
theorem cnt_le {l : List Sy.Cm} {ps : List UInt8} (hl : l.length ≤ 16) : ∀ k, Sy.sumK (cnt l ps) k ≤ 16 * k
  | 0 => Nat.le_refl _
  | k + 1 => by
    have h1 := cnt_le (ps := ps) hl k
    have h2 : cnt l ps k ≤ 16 := Nat.le_trans (Sy.part_len _ _) hl
    simp only [Sy.sumK]
    omega
theorem kids_get (l : List Sy.Cm) (ps : List UInt8) {k : Nat} (hk : k < 16) : (Sy.kids l ps)[k]? = some (Sy.dig l (ps ++ [UInt8.ofNat k])) := by
  simp [Sy.kids, Sy.kidsT, hk]
theorem has_sub {l : List Sy.Cm} {ps : List UInt8} {y : UInt8} {x : Sy.Cm} (h : x ∈ Sy.part (ps ++ [y]) l) : ((Sy.part ps l).any fun z => Sy.enc z == Sy.enc x) = true :=
  List.any_eq_true.2 ⟨x, Sy.sub_part h, by simp⟩
set_option maxRecDepth 100000 in
set_option maxHeartbeats 4000000 in
theorem walk (w : World) (hK : Kst w) {A P : Option Addr} {n c pn pc : Nat} {l : List Sy.Cm} {ps : List UInt8} (hs : RdE lCm w (fun _ => True) A n c l) (hz : ∀ x ∈ l, Sy.csz x ≤ 30000000) (hp : Rd w (fun _ => True) P pn pc ps) (hpn : pn ≤ 1048576) :
    Calls Tryd.prog 4 #[.slice A n c, .slice P pn pc] w fun e w' => e = .returned (.bool true) ∧ Below w.heap.size w w' := by
  have upS : Hid (∀ w', Below w.heap.size w w' → RdE lCm w' (fun i => i < w'.heap.size) A n c l) := fun w' h => (hs.fr (Fr.of_below (F := fun _ => False) h) (fun _ _ h => h)).mono (fun i hi _ => hi)
  have upP : Hid (∀ w', Below w.heap.size w w' → Rd w' (fun i => i < w'.heap.size) P pn pc ps) := fun w' h => (hp.fr (Fr.of_below (F := fun _ => False) h) (fun _ _ h => h)).mono (fun i hi _ => hi)
  have upK : Hid (∀ w', Below w.heap.size w w' → Kst w') := fun w' h => hK.below h hK.pos
  have hzd := Lib.hid hz
  have hnl := Lib.hid hs.len
  have hpnd := Lib.hid hpn
  clear hs hp hK hz hpn
  go_enter Tryd.func4, Tryd.ntmps4
  go_wp2_with fail
  refine (awake_any w (upK.out w (Below.refl _ _))).mono ?_
  rintro e w1 ⟨rfl, hb1⟩
  have hb1d := Lib.hid hb1
  clear hb1
  go_wp2_with fail
  by_cases hS : Sy.State l
  · refine (state_any l w1 ((upS.out _ hb1d.out).mono (fun _ _ _ => trivial)) hzd.out true ⟨fun _ => hS, fun _ => rfl⟩).mono ?_
    rintro e w2 ⟨rfl, hb2⟩
    have hb2d : Hid (Below w.heap.size w w2) := hb1d.out.trans (hb2.mono hb1d.out.size)
    have hn : Hid (n ≤ 16) := by have := hS.1; have := hnl.out; show _ ≤ _; omega
    have hSd := Lib.hid hS
    clear hb2 hS
    by_cases h40 : pn ≤ 40
    · have h40I : ¬ (40 : Int) < (pn : Int) := by omega
      have h40d : decide ((40 : Int) < (pn : Int)) = false := decide_eq_false h40I
      go_wp2_with fail
      refine (part_any w2 (S := fun i => i < w2.heap.size) (fun i h => h) (upS.out _ hb2d.out) (by have := hn.out; omega) hzd.out (upP.out _ hb2d.out)).mono ?_
      rintro e w3 ⟨A3, n3, c3, rfl, hr3, hb3⟩
      have hb3d : Hid (Below w.heap.size w w3) := hb2d.out.trans (hb3.mono hb2d.out.size)
      have hr3d := Lib.hid hr3
      have hl3 := Lib.hid hr3.len
      have hn3 : Hid (n3 ≤ 16) := by have := hr3.len; have := Sy.part_len ps l; have := hnl.out; have := hn.out; show _ ≤ _; omega
      clear hr3 hb3
      go_wp2_with fail
      refine (kids_any w3 (upK.out _ hb3d.out) (upS.out _ hb3d.out) hn.out hzd.out (upP.out _ hb3d.out) (by have := hpnd.out; omega)).mono ?_
      rintro e w4 ⟨B4, d4, rfl, hk4, hb4⟩
      have hb34 : Hid (Below w3.heap.size w3 w4) := hb4
      have hb4d : Hid (Below w.heap.size w w4) := hb3d.out.trans (hb4.mono hb3d.out.size)
      have hk4d := Lib.hid hk4
      clear hk4 hb4
      go_wp2_with fail
      refine (digest_any w4 (upK.out _ hb4d.out) (upS.out _ hb4d.out) hn.out hzd.out (upP.out _ hb4d.out) (by have := hpnd.out; omega)).mono ?_
      rintro e w5 ⟨P5, p5, q5, A5, n5, c5, rfl, hp5, ha5, hb5⟩
      have hb45 : Hid (Below w4.heap.size w4 w5) := hb5
      have hb5d : Hid (Below w.heap.size w w5) := hb4d.out.trans (hb5.mono hb4d.out.size)
      clear hp5 ha5 hb5
      rw [← hl3.out]
      have hfd : ∀ v : World, (Instr.field 30 (.agg #[.slice P5 p5 q5, .slice A5 n5 c5, .int .i64 (n3 : Int)]) 2).run Tryd.prog v = .ok (.int .i64 (n3 : Int)) v := fun _ => by kernel_rfl
      have hr5 : Hid (RdE lCm w5 (fun i => i < w2.heap.size ∨ w2.heap.size ≤ i) A3 n3 c3 (Sy.part ps l)) := (hr3d.out.fr (Fr.of_below (F := fun _ => False) hb34.out) (fun _ _ h => h)).fr (Fr.of_below (F := fun _ => False) hb45.out) (fun _ _ h => h)
      have hk5 : Hid (RdE lDg w5 (fun i => w3.heap.size ≤ i) B4 16 d4 (Sy.kids l ps)) := hk4d.out.fr (Fr.of_below (F := fun _ => False) hb45.out) (fun _ _ h => h)
      clear hr3d hk4d
      by_cases h2 : n3 < 2
      · go_wp2_with fail
        go_returns
        exact ⟨rfl, hb5d.out⟩
      · have hsum : Hid (Sy.sumK (cnt l ps) 16 = n3) := by show _ = _; rw [hl3.out]; exact hSd.out.sum (by have := hl3.out; omega)
        go_wp2_with fail
        go_loopw [8, 7] (fun t u wr => ∃ k : Nat, k ≤ 16 ∧ t = .int .i64 (k : Int) ∧ u = .int .i64 (Sy.sumK (cnt l ps) k : Int) ∧ Below w5.heap.size w5 wr) (fun t _ _ => 16 - (intOf t).toNat)
        case atStart => exact ⟨0, by omega, rfl, rfl, Below.refl _ _⟩
        case round =>
          obtain ⟨k, hk, rfl, rfl, hb⟩ := hrel
          have hbr5 := Lib.hid hb
          have hbr : Hid (Below w.heap.size w wr) := hb5d.out.trans (hb.mono hb5d.out.size)
          have hsl := cnt_le (l := l) (ps := ps) (by have := hnl.out; have := hn.out; omega) k
          have hsn : Hid (Sy.sumK (cnt l ps) (k + 1) = Sy.sumK (cnt l ps) k + cnt l ps k) := rfl
          obtain ⟨SK, hSK⟩ : ∃ SK, Sy.sumK (cnt l ps) k = SK := ⟨_, rfl⟩
          rw [hSK] at hsl ⊢
          have hSKd := Lib.hid hSK
          have hsld := Lib.hid hsl
          clear hb hSK hsl
          by_cases hlt : k < 16
          · have hy : Hid (((UInt8.ofNat k).toNat : Int) = (k : Int)) := by show _ = _; rw [UInt8.toNat_ofNat']; omega
            have hk256 : (k : Int) % 256 = (k : Int) := by omega
            have o1 : (wr.alloc (.cells #[] 5)).ownsRow wr.heap.size 5 1 (.slice (some ⟨wr.heap.size, 0, none⟩) 0 0) 0 [] := own_alloc wr (Nat.le_refl _) 5 [] #[] rfl rfl (by decide)
            have o1d := Lib.hid o1
            have hb1 : Hid (Below wr.heap.size wr (wr.alloc (.cells #[] 5))) := (Below.refl _ _).alloc (Nat.le_refl _) _
            have hr1 := rd_row ((upP.out _ hbr.out).fr (Fr.of_below (F := fun _ => False) hb1.out) (fun _ _ h => h))
            have on1 := u8_ones ps
            have hs1 : wr.heap.size ≤ (wr.alloc (.cells #[] 5)).heap.size := hb1.out.size
            have hj1 : (0 + pn) * 1 ≤ 140737488355328 := by have := hpnd.out; omega
            go_wp2_with (at_builtin; refine wpl_app rfl (.tmp 47) (.tmp 48) 23 rfl wr.heap.size 5 _ 1 1 Tryd.underlying23 infoBy rfl (by decide) (by decide) _ rfl 0 _ o1 _ _ pn pc rfl _ hr1 on1 hj1 hs1 pn (Nat.zero_add _) ?h2)
            case h2 =>
              intro A7 c7 w7 o7 g7 b7
              have hb7 : Hid (Below wr.heap.size wr w7) := app_below hb1.out g7 (fun k e => (own_lt o1d.out k e).1) hs1
              have o8 : (w7.alloc (.cells #[.int .u8 (k : Int)] 5)).ownsRow wr.heap.size 5 1 (.slice A7 pn c7) pn ([] ++ ps.map u8v) := own_alc o7 _
              have ro8 : Row (w7.alloc (.cells #[.int .u8 (k : Int)] 5)) (fun i => i = w7.heap.size) 1 (some ⟨w7.heap.size, 0, none⟩) 1 1 [.int .u8 (k : Int)] := Row.new w7 _ _ _ rfl rfl (by decide)
              have on8 : ∀ u ∈ [Value.int .u8 (k : Int)], u.oneCell' = true := by intro u hu; rw [List.mem_singleton.1 hu]; rfl
              have hb8 : Hid (Below wr.heap.size wr (w7.alloc (.cells #[.int .u8 (k : Int)] 5))) := hb7.out.alloc hb7.out.size _
              have hs8 := hb8.out.size
              have hj8 : (pn + 1) * 1 ≤ 140737488355328 := by have := hpnd.out; omega
              have o8d := Lib.hid o8
              clear o1 hr1 on1 hs1 hj1 o7 g7 b7
              go_wp2_with (at_builtin; refine wpl_app rfl (.tmp 49) (.tmp 52) 23 rfl wr.heap.size 5 _ 1 1 Tryd.underlying23 infoBy rfl (by decide) (by decide) _ rfl pn _ o8 _ _ 1 1 rfl _ ro8 on8 hj8 hs8 (pn + 1) rfl ?h3)
              case h3 =>
                intro A9 c9 v1 o9 g9 b9
                have hbv1 : Hid (Below wr.heap.size wr v1) := app_below hb8.out g9 (fun k e => (own_lt o8d.out k e).1) hs8
                have hbw1 : Hid (Below w.heap.size w v1) := hbr.out.trans (hbv1.out.mono hbr.out.size)
                have hr9 : Hid (Rd v1 (fun i => wr.heap.size ≤ i) A9 (pn + 1) c9 (ps ++ [UInt8.ofNat k])) := by
                  have e : ps.map u8v ++ [Value.int .u8 (k : Int)] = (ps ++ [UInt8.ofNat k]).map u8v := by
                    rw [List.map_append]
                    show _ = ps.map u8v ++ [Value.int .u8 ((UInt8.ofNat k).toNat : Int)]
                    rw [hy.out]
                  rw [e] at o9
                  exact (own_rd o9).mono (fun i _ hi => (own_lt o9 i hi).1)
                clear o8 ro8 on8 hs8 hj8 o9 g9 b9
                go_wp2_with fail
                refine (part_any v1 (S := fun i => i < v1.heap.size) (fun i h => h) (upS.out _ hbw1.out) (by have := hn.out; omega) hzd.out (hr9.out.mono (fun i hi _ => hi))).mono ?_
                rintro e v2 ⟨A6, n6, c6, rfl, hr6, hb6⟩
                have hbv2 : Hid (Below v1.heap.size v1 v2) := hb6
                have hbr2 : Hid (Below wr.heap.size wr v2) := hbv1.out.trans (hb6.mono hbv1.out.size)
                have hb52 : Hid (Below w5.heap.size w5 v2) := hbr5.out.trans (hbr2.out.mono hbr5.out.size)
                have hbw2 : Hid (Below w.heap.size w v2) := hbw1.out.trans (hb6.mono hbw1.out.size)
                have hr6d := Lib.hid hr6
                have hl6 := Lib.hid hr6.len
                have hn6 : n6 ≤ 16 := by have := hr6.len; have := Sy.part_len (ps ++ [UInt8.ofNat k]) l; have := hnl.out; have := hn.out; omega
                obtain ⟨b1, o1, P1, p1, q1, T1, s1, u1, rfl, hbl1, hw1, ht1, hg1⟩ := dg_at (hk5.out.fr (Fr.of_below (F := fun _ => False) hb52.out) (fun _ _ h => h)) (kids_get l ps hlt)
                rw [show (Sy.dig l (ps ++ [UInt8.ofNat k])).count = (n6 : Int) by rw [hl6.out]; rfl] at hg1
                have hg1d := Lib.hid (And.intro hg1 hbl1)
                have hw1d : Hid (Rd v2 (fun i => w3.heap.size ≤ i) P1 p1 q1 (ps ++ [UInt8.ofNat k])) := hw1
                have hr9d : Hid (Rd v2 (fun i => wr.heap.size ≤ i) A9 (pn + 1) c9 (ps ++ [UInt8.ofNat k])) := hr9.out.fr (Fr.of_below (F := fun _ => False) hbv2.out) (fun _ _ h => h)
                obtain ⟨nx, hnx⟩ : ∃ nx, ps ++ [UInt8.ofNat k] = nx := ⟨_, rfl⟩
                rw [hnx] at hw1d hr9d hr6d hl6
                have hnxd := Lib.hid hnx
                clear hr6 hb6 hbl1 hw1 ht1 hg1 hr9 hnx hk256
                go_wp2_with fail
                refine wp_region_late Ab Ab.refl Ab.trans [] (.last [0, 1, 6] [2, 3, 4, 5, 7, 8, 9, 10, 11, 12, 13, 14, 15, 16, 17, 18]) (by kernel_rfl) (by kernel_rfl) (fun _ _ _ _ _ h => h) ?_
                simp only [wpSchV, ordPick, Option.toList_some, List.cons_append, List.nil_append, List.getElem?_cons_succ, List.getElem?_cons_zero]
                have hbd2 : Hid (Ab v2 v2.drew) := ab_drew v2
                obtain ⟨v3, hv3⟩ : ∃ v3, v2.drew = v3 := ⟨_, rfl⟩
                rw [hv3] at hbd2 ⊢
                clear hv3
                have g0 : ∀ w', Ab v3 w' → w'.cell? ⟨b1, o1 + k * 3, none⟩ = some (.slice P1 p1 q1) := fun w' h => range_ab hg1d.out.1 hg1d.out.2 (Ab.trans _ _ _ hbd2.out h) 0 _ rfl
                have g2 : ∀ w', Ab v3 w' → w'.cell? ⟨b1, o1 + k * 3 + 2, none⟩ = some (.int .i64 (n6 : Int)) := fun w' h => range_ab hg1d.out.1 hg1d.out.2 (Ab.trans _ _ _ hbd2.out h) 2 _ rfl
                iterate 3 (go_big_quiet_step (exact fun _ => rfl))
                refine wpQuiet_nil ?_
                iterate 2 (go_big_quiet_step (exact fun _ => rfl))
                refine wpq_load_one rfl 23 (.tmp 60) rfl ⟨b1, o1 + k * 3, none⟩ rfl _ g0 _ Tryd.underlying23 rfl ?_
                simp only [Act.put, List.setIfInBounds_toArray, List.set_cons_succ, List.set_cons_zero]
                refine wpq_string rfl 23 9 5 (.tmp 61) rfl Tryd.underlying23 Tryd.underlying5 Tryd.underlying9 P1 p1 q1 rfl nx (fun w' h => (hw1d.out.ab (Ab.trans _ _ _ hbd2.out h)).bytes (fun i hi _ => hi)) ?_
                simp only [Act.put, List.setIfInBounds_toArray, List.set_cons_succ, List.set_cons_zero]
                refine wpq_string rfl 23 9 5 (.tmp 63) rfl Tryd.underlying23 Tryd.underlying5 Tryd.underlying9 A9 (pn + 1) c9 rfl nx (fun w' h => (hr9d.out.ab (Ab.trans _ _ _ hbd2.out h)).bytes (fun i hi _ => hi)) ?_
                simp only [Act.put, List.setIfInBounds_toArray, List.set_cons_succ, List.set_cons_zero]
                iterate 6 (go_big_quiet_step (exact fun _ => rfl))
                refine wpq_load_w rfl 3 (.tmp 70) rfl ⟨b1, o1 + k * 3 + 2, none⟩ rfl _ g2 _ Tryd.underlying3 rfl ?_
                simp only [Act.put, List.setIfInBounds_toArray, List.set_cons_succ, List.set_cons_zero]
                iterate 4 (go_big_quiet_step (exact fun _ => rfl))
                refine wpQuiet_nil ?_
                clear g0 g2
                go_wp2_with fail
                go_loopw [11] (fun t wi => ∃ j : Nat, j ≤ n6 ∧ t = .int .i64 (j : Int) ∧ Below v3.heap.size v3 wi) (fun t _ => n6 - (intOf t).toNat)
                case atStart => exact ⟨0, Nat.zero_le _, rfl, Below.refl _ _⟩
                case round =>
                  obtain ⟨j, hj, rfl, hb⟩ := hrel
                  have hvi : Hid (Below v2.heap.size v2 wr) := Ab.trans _ _ _ hbd2.out hb
                  have hbi5 : Hid (Below w5.heap.size w5 wr) := hb52.out.trans (hvi.out.mono hb52.out.size)
                  have hbi3 : Hid (Below v3.heap.size v3 wr) := hb
                  clear hb
                  by_cases hjl : j < n6
                  · have hjx : j < (Sy.part nx l).length := by have := hl6.out; omega
                    obtain ⟨x, hx⟩ : ∃ x, (Sy.part nx l)[j]? = some x := ⟨_, List.getElem?_eq_getElem hjx⟩
                    obtain ⟨b, o, E1, r1, t1, G1, m1, y1, rfl, hbl, hxr1, hxr2, hg⟩ := cm_at (hr6d.out.fr (Fr.of_below (F := fun _ => False) hvi.out) (fun _ _ h => h)) hx
                    have e0 : wr.cell? ⟨b, o + j * 6, none⟩ = some (.int .i64 x.client) := hg 0 _ rfl
                    have e1 : wr.cell? ⟨b, o + j * 6 + 1, none⟩ = some (.int .i64 x.seq) := hg 1 _ rfl
                    have e2 : wr.cell? ⟨b, o + j * 6 + 2, none⟩ = some (.int .i64 x.kind) := hg 2 _ rfl
                    have e3 : wr.cell? ⟨b, o + j * 6 + 3, none⟩ = some (.slice E1 r1 t1) := hg 3 _ rfl
                    have e4 : wr.cell? ⟨b, o + j * 6 + 4, none⟩ = some (.int .i64 x.replica) := hg 4 _ rfl
                    have e5 : wr.cell? ⟨b, o + j * 6 + 5, none⟩ = some (.slice G1 m1 y1) := hg 5 _ rfl
                    have hxm : Hid (x ∈ Sy.part nx l) := List.mem_of_getElem? hx
                    have hxr1d := Lib.hid hxr1
                    have hxr2d := Lib.hid hxr2
                    clear hg hx hbl hxr1 hxr2 hjx
                    go_wp2_with fail
                    clear e0 e1 e2 e3 e4 e5
                    have hh := has_any (Sy.part ps l) x wr ((hr5.out.fr (Fr.of_below (F := fun _ => False) hbi5.out) (fun _ _ h => h)).mono (fun _ _ _ => trivial)) (by have := hn3.out; omega) (fun z hz => hzd.out z (Sy.part_sub hz)) (hxr1d.out.mono (fun _ _ _ => trivial)) (hxr2d.out.mono (fun _ _ _ => trivial)) (hzd.out x (Sy.part_sub hxm.out))
                    rw [has_sub (l := l) (ps := ps) (y := UInt8.ofNat k) (x := x) (by rw [hnxd.out]; exact hxm.out)] at hh
                    refine hh.mono ?_
                    rintro e wj ⟨rfl, hbj⟩
                    have hbj3 : Hid (Below v3.heap.size v3 wj) := hbi3.out.trans (hbj.mono hbi3.out.size)
                    clear hbj hh
                    go_wp2_with fail
                    go_roundw
                    case rel => exact ⟨j + 1, by omega, by go_num, hbj3.out⟩
                    case measure => simp [intOf]; omega
                  · have hjn := Lib.hid (show j = n6 by omega)
                    have hadd : IntKind.i64.wrap ((SK : Int) + (n6 : Int)) = ((SK + n6 : Nat) : Int) := by rw [IntKind.wrap_i64]; have := hsld.out; omega
                    go_wp2_with fail
                    go_roundw
                    case rel =>
                      refine ⟨k + 1, by omega, by go_num, ?_, hbi5.out⟩
                      rw [hsn.out, hSKd.out, show cnt l ps k = n6 by rw [hl6.out, ← hnxd.out]; rfl]
                      first | rfl | go_num
                    case measure => simp [intOf]; omega
          · obtain rfl : k = 16 := by omega
            have hSe : SK = n3 := by rw [← hSKd.out]; exact hsum.out
            subst hSe
            go_wp2_with fail
            go_returns
            exact ⟨rfl, hbr.out⟩
    · have h40I : (40 : Int) < (pn : Int) := by omega
      have h40d : decide ((40 : Int) < (pn : Int)) = true := decide_eq_true h40I
      go_wp2_with fail
      go_returns
      exact ⟨rfl, hb2d.out⟩
  · refine (state_any l w1 ((upS.out _ hb1d.out).mono (fun _ _ _ => trivial)) hzd.out false ⟨fun h => (by cases h), fun h => (hS h).elim⟩).mono ?_
    rintro e w2 ⟨rfl, hb2⟩
    have hb2d : Hid (Below w.heap.size w w2) := hb1d.out.trans (hb2.mono hb1d.out.size)
    clear hb2
    go_wp2_with fail
    go_returns
    exact ⟨rfl, hb2d.out⟩
theorem table {W : World} (h : laidMetH Tryd.prog Rows.synctreeSplitsUptoRow.laid W) : Lib.TabIs Tryd.prog W "plexus/sha256.constants" .u32 (Sha.K.map fun (n : Nat) => (n : Int)) :=
  Lib.tabIs_of_head (rest := []) gTab gTabType Tryd.underlying90 Tryd.underlying75 cellsWord cellsTab h
theorem contract (H : Type) (enc : TypeId × Value → H) (W : World) (base : Nat) (args : Array Value) (ds gs : List (DataW H)) (before : List MemPlace)
    (hval : ∀ (j : Nat) t v, Tryd.f4.params[j]? = some t → args[j]? = some v → Value.okWide Tryd.prog W .any base t v)
    (hW : DataW.Whole enc Tryd.prog Tryd.f4.params.toList Rows.synctreeSplitsSpec.vars false W args.toList ds gs before) (hbk : Rows.uptoSmall H (ds ++ gs) = true) (hL : laidMetH Tryd.prog Rows.synctreeSplitsUptoRow.laid W) :
    Calls Tryd.prog 4 args W fun e W' => ∃ v, e = .returned v ∧ Rows.synctreeSplitsSpec.post enc Tryd.prog Tryd.f4 false true false false W args v W' := by
  have hW' := hW
  obtain ⟨p, q, hA0, hV, rfl, hfz, hnd⟩ := hW
  have hA : DataW.TrodAll enc Tryd.prog W 0 (fun _ => true) true Tryd.f4.params.toList args.toList ds p := hA0
  rw [Tryd.params4] at hA hval
  obtain ⟨v0, vs0, d0, ds0, p0, q0, hargs, rfl, rfl, h0, r0⟩ := trodAll_cons hA
  obtain ⟨v1, vs1, d1, ds1, p1, q1, rfl, rfl, rfl, h1, r1⟩ := trodAll_cons r0
  obtain ⟨rfl, rfl, rfl⟩ := trodAll_nil r1
  obtain rfl : args = #[v0, v1] := by cases args; simp_all
  obtain ⟨rfl, rfl⟩ := trodVars_none hV
  have hbk1 := of_decide_eq_true hbk
  simp only [List.append_nil, Rows.uptoBulkAll] at hbk1
  obtain ⟨a0, len0, cap0, rfl⟩ := okWide_slice Tryd.underlying22 (hval 0 22 v0 rfl rfl)
  obtain ⟨a1, len1, cap1, rfl⟩ := okWide_slice Tryd.underlying23 (hval 1 23 v1 rfl rfl)
  have k0 := h0
  have lt0 : ∀ x ∈ p0, x.block < W.heap.size := by obtain ⟨m, hm⟩ := k0; exact DataW.trod_lt m _ _ _ hm
  obtain ⟨l0, hr0, hz0⟩ := cmds_in h0 (by omega)
  have k1 := h1
  have lt1 : ∀ x ∈ p1, x.block < W.heap.size := by obtain ⟨m, hm⟩ := k1; exact DataW.trod_lt m _ _ _ hm
  obtain ⟨l1, hr1, hn1⟩ := bts_in h1 (by omega)
  clear hA0
  refine (walk W (kst_of_tab (table hL)) hr0 hz0 hr1 hn1).mono fun e W' ⟨he, bel⟩ => ?_
  subst he
  exact ⟨_, rfl, _, _, _, [], _, [], hW', trodAll_mk1 (shut_bool Tryd.underlying4 _), (trodAll_cons_mk (Below.trod laidOut (by kernel_rfl) (of_decide_eq_true (by kernel_rfl)) k0 bel lt0) (trodAll_cons_mk (Below.trod laidOut (by kernel_rfl) (of_decide_eq_true (by kernel_rfl)) k1 bel lt1) trodAll_mk0)), rfl, bel.frame _, fun h => by cases h⟩
theorem laid_met (os : Os) : laidMet Tryd.prog Rows.synctreeSplitsUptoRow.laid ((laidWorld os).forCall (fun _ _ => 0) ⟨#[], #[.slice none 0 0, .slice none 0 0], []⟩).memory :=
  laidMet_of_run' 8 (by kernel_rfl) (by kernel_rfl)
theorem reads (os : Os) {H : Type} (enc : TypeId × Value → H) : ∃ places, DataW.whole enc Tryd.prog ((laidWorld os).forCall (fun _ _ => 0) ⟨#[], #[.slice none 0 0, .slice none 0 0], []⟩).memory Tryd.f4.params.toList Rows.synctreeSplitsSpec.vars false #[Value.slice none 0 0, .slice none 0 0].toList 8 = some ([.nil, .nil], [], places) :=
  ⟨[], by kernel_rfl⟩
set_option maxRecDepth 100000 in
theorem lifted (os : Os) (started : os.Started) (H : Type) (enc : TypeId × Value → H) (F : Stop.Interp) :
    ReturnsInHanded {} Tryd.checked os 4 .any ((Rows.OpenSpec.upto Rows.synctreeSplitsSpec).preRow enc Tryd.prog Tryd.f4 Rows.synctreeSplitsUptoRow.domain false Rows.synctreeSplitsUptoRow.laid) (((Rows.OpenSpec.upto Rows.synctreeSplitsSpec).at F).post enc Tryd.prog Tryd.f4 false true false false) := by
  obtain ⟨places, hx⟩ := reads os enc
  refine returnsInHanded_of_row (C := Tryd.checked) (s := (Rows.OpenSpec.upto Rows.synctreeSplitsSpec)) own started (by kernel_rfl) Tryd.func4
    (witness_row_at (enc := enc) (C := Tryd.checked) false (laidWorld os) #[.slice none 0 0, .slice none 0 0] rfl (by kernel_rfl) (by kernel_rfl) (by kernel_rfl)
      (OpenSpec.preRow_of_cond 8 hx (by kernel_rfl) (fun k hk => by cases hk; kernel_rfl) (by kernel_rfl) (laid_met os))) ?_
  intro W base args ds gs before hval hW _ hcond _ hL _ _
  exact contract H enc W base args ds gs before hval hW (hcond _ rfl) hL
theorem said : Rows.SynctreeSplitsUptoSaid :=
  OpenClaim.holds_of_cond 4 Tryd.f4 rfl rfl rfl rfl rfl rfl rfl ⟨rfl, rfl, rfl, rfl, rfl⟩ rfl rfl rfl rfl rfl (by kernel_rfl) Tryd.func4 (by kernel_rfl)
    (of_decide_eq_true (by kernel_rfl)) (by unfold Func.isWrapper; first | (rw [if_pos (by decide +kernel)]; kernel_rfl) | (rw [if_neg (by decide +kernel)]; exact ⟨rfl, rfl⟩))
    (fun os started H enc _ F => by rw [OpenClaim.pre_eq_preRow]; exact lifted os started H enc F)
theorem plain (f : FuncId) (fn : Func) (hf : Tryd.pinned.checked.prog.funcNamed "plexus/plexuslaw45.SynctreeSplits" = some f) (hfn : Tryd.pinned.checked.prog.funcs[f]? = some fn) :
    false = Tryd.pinned.checked.prog.looks [] ∧ ∀ (j : Nat) t, fn.params[j]? = some t → Tryd.pinned.checked.prog.wantsStandIn t = false := by
  obtain rfl : f = 4 := Option.some.inj ((show Tryd.prog.funcNamed "plexus/plexuslaw45.SynctreeSplits" = some 4 by kernel_rfl).symm.trans hf) |>.symm
  obtain rfl : fn = Tryd.f4 := (Option.some.inj (Tryd.func4.symm.trans hfn)).symm
  refine ⟨by kernel_rfl, fun j t ht => ?_⟩
  rw [Tryd.params4] at ht
  have hm : t = 22 ∨ t = 23 := by simpa using Array.mem_of_getElem? ht
  rcases hm with rfl | rfl
  · exact (show Tryd.prog.wantsStandIn 22 = false by kernel_rfl)
  · exact (show Tryd.prog.wantsStandIn 23 = false by kernel_rfl)
/-- The card. -/
theorem card : Rows.SynctreeSplitsUptoCardSaid :=
  Claim7.holds_tied_plain_at .later [] _ _ _ _ said (fun _ h => by cases h) (by kernel_rfl) (fun _ h => by cases h) synctreeSplitsUpto_row_tie rfl ⟨rfl, rfl⟩ (by kernel_rfl) rfl plain (by kernel_rfl)
#print axioms card
end Go.Proofs.YtajohibeoicepaaDoor.synctreeSplits

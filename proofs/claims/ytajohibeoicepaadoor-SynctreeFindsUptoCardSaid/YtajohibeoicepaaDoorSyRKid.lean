/-
  The reference's Children, Match, Same; the law's digests; walked.
-/
import Derived.Test.YtajohibeoicepaaDoorSyR45
namespace Go.Proofs.YtajohibeoicepaaDoor
open Go.RowKit Go.Pl
set_option maxRecDepth 100000 in
set_option maxHeartbeats 2000000 in
theorem rkids_any (w : World) {A P : Option Addr} {n c pn pc : Nat} {l : List Sy.Cm} {ps : List UInt8} (hs : RdE lCm w (fun i => i < w.heap.size) A n c l) (hn : n ≤ 16) (hz : ∀ x ∈ l, Sy.csz x ≤ 30000000) (hp : Rd w (fun i => i < w.heap.size) P pn pc ps) (hpn : pn ≤ 9000000) :
    Calls Tryd.prog 19 #[.slice A n c, .slice P pn pc] w fun e w' => ∃ A' c', e = .returned (.slice A' 16 c') ∧ RdE lDg w' (fun i => w.heap.size ≤ i) A' 16 c' (Sy.kids l ps) ∧ Below w.heap.size w w' := by
  have hsd := Lib.hid hs
  have hpd := Lib.hid hp
  have hzd := Lib.hid hz
  have hnd := Lib.hid hn
  have hpl := Lib.hid hp.len
  have hpnd := Lib.hid hpn
  clear hs hp hz hn hpn
  go_enter Tryd.func19, Tryd.ntmps19
  go_wp2_with fail
  have o0 : Hid (OwnX lDg (w.alloc (.cells #[] 30)) (fun i => w.heap.size ≤ i) w.heap.size 30 (.slice (some ⟨w.heap.size, 0, none⟩) 0 0) 0 (Sy.kidsT l ps 0)) := ⟨[], ⟨by simp, .inr ⟨w.heap.size, 0, #[], rfl, Nat.le_refl _, heap_alloc_new w _, Nat.le_refl _, by simp [maxLen], by simp, by simp⟩⟩, rfl⟩
  go_loopw [6, 5] (fun t u wr => ∃ (k : Nat) (B : Option Addr) (d : Nat), k ≤ 16 ∧ t = .int .i64 (k : Int) ∧ u = .slice B k d ∧ OwnX lDg wr (fun i => w.heap.size ≤ i) w.heap.size 30 u k (Sy.kidsT l ps k) ∧ Below w.heap.size w wr) (fun t u _ => 16 - (intOf t).toNat)
  case atStart => exact ⟨0, _, 0, by omega, rfl, rfl, o0.out, (Below.refl _ _).alloc (Nat.le_refl _) _⟩
  case round =>
    obtain ⟨k, B, d, hk, rfl, rfl, ho, hb⟩ := hrel
    have hbd := Lib.hid hb
    have hod := Lib.hid ho
    clear hb ho
    by_cases hlt : k < 16
    · have hy : Hid (((UInt8.ofNat k).toNat : Int) = (k : Int)) := by show _ = _; rw [UInt8.toNat_ofNat']; omega
      have hk256 : (k : Int) % 256 = (k : Int) := by omega
      have o1 : (wr.alloc (.cells #[] 5)).ownsRow wr.heap.size 5 1 (.slice (some ⟨wr.heap.size, 0, none⟩) 0 0) 0 [] := own_alloc wr (Nat.le_refl _) 5 [] #[] rfl rfl (by decide)
      have o1d := Lib.hid o1
      have hb1 : Hid (Below wr.heap.size wr (wr.alloc (.cells #[] 5))) := (Below.refl _ _).alloc (Nat.le_refl _) _
      have hr1 := rd_row ((hpd.out.fr (Fr.of_below (F := fun _ => False) hbd.out) (fun _ _ h => h)).fr (Fr.of_below (F := fun _ => False) hb1.out) (fun _ _ h => h))
      have on1 := u8_ones ps
      have hs1 : wr.heap.size ≤ (wr.alloc (.cells #[] 5)).heap.size := hb1.out.size
      have hj1 : (0 + pn) * 1 ≤ 140737488355328 := by have := hpnd.out; omega
      go_wp2_with (at_builtin; refine wpl_app rfl (.tmp 14) (.tmp 15) 23 rfl wr.heap.size 5 _ 1 1 Tryd.underlying23 infoBy rfl (by decide) (by decide) _ rfl 0 _ o1 _ _ pn pc rfl _ hr1 on1 hj1 hs1 pn (Nat.zero_add _) ?h2)
      case h2 =>
        intro A7 c7 w7 o7 g7 b7
        have hb7 : Hid (Below wr.heap.size wr w7) := app_below hb1.out g7 (fun k e => (own_lt o1d.out k e).1) hs1
        have o8 : (w7.alloc (.cells #[.int .u8 (k : Int)] 5)).ownsRow wr.heap.size 5 1 (.slice A7 pn c7) pn ([] ++ ps.map u8v) := own_alc o7 _
        have ro8 : Row (w7.alloc (.cells #[.int .u8 (k : Int)] 5)) (fun i => i = w7.heap.size) 1 (some ⟨w7.heap.size, 0, none⟩) 1 1 [.int .u8 (k : Int)] := Row.new w7 _ _ _ rfl rfl (by decide)
        have on8 : ∀ u ∈ [Value.int .u8 (k : Int)], u.oneCell' = true := by intro u hu; rw [List.mem_singleton.1 hu]; rfl
        have hb8 : Hid (Below wr.heap.size wr (w7.alloc (.cells #[.int .u8 (k : Int)] 5))) := hb7.out.alloc hb7.out.size _
        have hs8 := hb8.out.size
        have hj8 : (pn + 1) * 1 ≤ 140737488355328 := by have := hpnd.out; omega
        have o8d := Lib.hid o8
        clear o1 hr1 on1 hs1 hj1 o7 g7 b7
        go_wp2_with (at_builtin; refine wpl_app rfl (.tmp 16) (.tmp 19) 23 rfl wr.heap.size 5 _ 1 1 Tryd.underlying23 infoBy rfl (by decide) (by decide) _ rfl pn _ o8 _ _ 1 1 rfl _ ro8 on8 hj8 hs8 (pn + 1) rfl ?h3)
        case h3 =>
          intro A9 c9 w1 o9 g9 b9
          have hb1d : Hid (Below wr.heap.size wr w1) := app_below hb8.out g9 (fun k e => (own_lt o8d.out k e).1) hs8
          have hbw1 : Hid (Below w.heap.size w w1) := hbd.out.trans (hb1d.out.mono hbd.out.size)
          have hr9 : Hid (Rd w1 (fun i => wr.heap.size ≤ i) A9 (pn + 1) c9 (ps ++ [UInt8.ofNat k])) := by
            have e : ps.map u8v ++ [Value.int .u8 (k : Int)] = (ps ++ [UInt8.ofNat k]).map u8v := by
              rw [List.map_append]
              show _ = ps.map u8v ++ [Value.int .u8 ((UInt8.ofNat k).toNat : Int)]
              rw [hy.out]
            rw [e] at o9
            exact (own_rd o9).mono (fun i _ hi => (own_lt o9 i hi).1)
          clear o8 ro8 on8 hs8 hj8 o9 g9 b9
          go_wp2_with fail
          have hf1 := Fr.of_below (F := fun _ => False) hbw1.out
          refine (rdigest_any w1 ((hsd.out.fr hf1 (fun _ _ h => h)).mono (fun i hi _ => hi)) hnd.out hzd.out (hr9.out.mono (fun i hi _ => hi)) (by have := hpnd.out; omega)).mono ?_
          rintro e w2 ⟨P2, p2, q2, A2, n2, c2, rfl, hrp, hra, hb2⟩
          have hbw2 : Hid (Below w.heap.size w w2) := hbw1.out.trans (hb2.mono hbw1.out.size)
          have hbr2 : Hid (Below wr.heap.size wr w2) := hb1d.out.trans (hb2.mono hb1d.out.size)
          have hrpd := Lib.hid hrp
          have hrad := Lib.hid hra
          have hs12 : Hid (wr.heap.size ≤ w1.heap.size) := hb1d.out.size
          obtain ⟨vs, o2, hE2⟩ := hod.out.up hbr2.out
          have hE2d := Lib.hid hE2
          have hown2 := Lib.hid o2
          obtain ⟨Z, hZ⟩ : ∃ Z : Int, ((Sy.part (ps ++ [UInt8.ofNat k]) l).length : Int) = Z := ⟨_, rfl⟩
          have hZd := Lib.hid hZ
          rw [hZ]
          have o4 : (w2.alloc (.cells #[.slice P2 p2 q2, .slice A2 n2 c2, .int .i64 Z] 30)).ownsRow w.heap.size 30 3 (.slice B k d) k vs := own_alc o2 _
          have ro4 : Row (w2.alloc (.cells #[.slice P2 p2 q2, .slice A2 n2 c2, .int .i64 Z] 30)) (fun i => i = w2.heap.size) 3 (some ⟨w2.heap.size, 0, none⟩) 1 1 [.slice P2 p2 q2, .slice A2 n2 c2, .int .i64 Z] := Row.new w2 _ _ _ rfl rfl (by decide)
          have on4 := one3 (.slice P2 p2 q2) (.slice A2 n2 c2) (.int .i64 Z)
          have hs4 : w.heap.size ≤ (w2.alloc (.cells #[.slice P2 p2 q2, .slice A2 n2 c2, .int .i64 Z] 30)).heap.size := Nat.le_trans hbw2.out.size ((Below.refl w.heap.size w2).alloc hbw2.out.size _).size
          clear hf1 hrp hra hb2 hE2 o2 hZ
          go_wp2_with (at_builtin; refine wpl_app rfl (.tmp 12) (.tmp 22) 33 rfl w.heap.size 30 _ 3 56 Tryd.underlying33 infoDg rfl (by decide) (by decide) _ rfl k vs o4 _ _ 1 1 rfl _ ro4 on4 (by omega) hs4 (k + 1) rfl ?h4)
          case h4 =>
            intro A5 c5 w5 o5 g5 b5
            have hb5 : Below w.heap.size w w5 := app_below (hbw2.out.alloc hbw2.out.size _) g5 (fun k e => (own_lt o4 k e).1) hs4
            have hdg : lDg.R w2 (fun i => w.heap.size ≤ i ∧ (Value.slice B k d).ownBlock ≠ some i) (Sy.dig l (ps ++ [UInt8.ofNat k])) [.slice P2 p2 q2, .slice A2 n2 c2, .int .i64 Z] := by
              have hlt4 : ∀ g, (Value.slice B k d).ownBlock = some g → g < wr.heap.size := fun g e => (own_lt hod.out.choose_spec.1 g e).2
              refine ⟨P2, p2, q2, A2, n2, c2, by rw [← hZd.out]; rfl, hrpd.out.mono (fun i _ h => ⟨Nat.le_trans hbw1.out.size h, fun e => ?_⟩), hrad.out.mono (fun i _ h => ⟨Nat.le_trans hbw1.out.size h, fun e => ?_⟩)⟩
              · have := hlt4 i e; have := hs12.out; omega
              · have := hlt4 i e; have := hs12.out; omega
            have hfa := (Fr.refl (fun _ => False) w2).alloc (.cells #[.slice P2 p2 q2, .slice A2 n2 c2, .int .i64 Z] 30)
            have hX : Hid (OwnX lDg w5 (fun i => w.heap.size ≤ i) w.heap.size 30 (.slice A5 (k + 1) c5) (k + 1) (Sy.kidsT l ps k ++ [Sy.dig l (ps ++ [UInt8.ofNat k])])) :=
              OwnX.app (hE2d.out.fr hfa (fun _ _ h => h)) (Els.single (lDg.fr hdg hfa (fun _ _ h => h))) o5 g5 (by rw [World.size_alloc]; exact b5)
            have hb5d := Lib.hid hb5
            clear o4 ro4 on4 hs4 o5 g5 b5 hb5 hdg hfa
            go_wp2_with fail
            go_roundw
            case rel => exact ⟨k + 1, A5, c5, by omega, by go_num, rfl, by rw [Sy.kidsT_succ]; exact hX.out, hb5d.out⟩
            case measure => simp [intOf]; omega
    · obtain rfl : k = 16 := by omega
      go_wp2_with fail
      go_returns
      exact ⟨B, d, rfl, hod.out.rd.mono (fun i _ h => h.elim id id), hbd.out⟩
set_option maxRecDepth 100000 in
theorem rmatch_any (w : World) {S1 S2 : Nat → Prop} {P1 P2 A1 A2 : Option Addr} {p1 q1 p2 q2 n1 c1 n2 c2 : Nat} {a b : List UInt8} {z1 z2 : Int} (h1 : Rd w S1 A1 n1 c1 a) (h2 : Rd w S2 A2 n2 c2 b) :
    Calls Tryd.prog 33 #[.agg #[.slice P1 p1 q1, .slice A1 n1 c1, .int .i64 z1], .agg #[.slice P2 p2 q2, .slice A2 n2 c2, .int .i64 z2]] w fun e w' => e = .returned (.bool (decide (z1 = z2) && a == b)) ∧ Below w.heap.size w w' := by
  by_cases hz : z1 = z2
  · subst hz
    have hf : Fr (fun _ => False) w ((w.alloc (.cells #[.slice P1 p1 q1, .slice A1 n1 c1, .int .i64 z1] 30)).alloc (.cells #[.slice P2 p2 q2, .slice A2 n2 c2, .int .i64 z1] 30)) := ((Fr.refl _ w).alloc _).alloc _
    have b1 := (h1.fr hf (fun _ _ h => h)).all
    have b2 := (h2.fr hf (fun _ _ h => h)).all
    have hb := Lib.hid (hf.below (B := w.heap.size) (fun _ h => h.elim) (Nat.le_refl _))
    clear h1 h2 hf
    go_enter Tryd.func33, Tryd.ntmps33
    go_wp2_with (first
      | (refine wpl_string_w 23 9 5 (.tmp 12) rfl rfl Tryd.underlying23 Tryd.underlying5 Tryd.underlying9 _ rfl _ b1 ?_)
      | (refine wpl_string_w 23 9 5 (.tmp 15) rfl rfl Tryd.underlying23 Tryd.underlying5 Tryd.underlying9 _ rfl _ b2 ?_))
    go_returns
    exact ⟨by simp, hb.out⟩
  · have hz' := gneZ hz
    go_enter Tryd.func33, Tryd.ntmps33
    go_wp2_with fail
    go_returns
    have hf : Fr (fun _ => False) w ((w.alloc (.cells #[.slice P1 p1 q1, .slice A1 n1 c1, .int .i64 z1] 30)).alloc (.cells #[.slice P2 p2 q2, .slice A2 n2 c2, .int .i64 z2] 30)) := ((Fr.refl _ w).alloc _).alloc _
    exact ⟨by rw [decide_eq_false hz]; rfl, hf.below (fun _ h => h.elim) (Nat.le_refl _)⟩
/-- The reference's Same, of two digests. -/
theorem rdsame_any (w : World) {S1 S2 T1 T2 : Nat → Prop} {P1 P2 A1 A2 : Option Addr} {p1 q1 p2 q2 n1 c1 n2 c2 : Nat} {a b p q : List UInt8} {z1 z2 : Int} (hp : Rd w T1 P1 p1 q1 p) (hq : Rd w T2 P2 p2 q2 q) (h1 : Rd w S1 A1 n1 c1 a) (h2 : Rd w S2 A2 n2 c2 b) :
    Calls Tryd.prog 14 #[.agg #[.slice P1 p1 q1, .slice A1 n1 c1, .int .i64 z1], .agg #[.slice P2 p2 q2, .slice A2 n2 c2, .int .i64 z2]] w fun e w' => e = .returned (.bool (p == q && (decide (z1 = z2) && a == b))) ∧ Below w.heap.size w w' := by
  have hf : Fr (fun _ => False) w ((w.alloc (.cells #[.slice P1 p1 q1, .slice A1 n1 c1, .int .i64 z1] 30)).alloc (.cells #[.slice P2 p2 q2, .slice A2 n2 c2, .int .i64 z2] 30)) := ((Fr.refl _ w).alloc _).alloc _
  have b1 := (hp.fr hf (fun _ _ h => h)).all
  have b2 := (hq.fr hf (fun _ _ h => h)).all
  have hb := Lib.hid (hf.below (B := w.heap.size) (fun _ h => h.elim) (Nat.le_refl _))
  have h1d := Lib.hid (h1.fr hf (fun _ _ h => h))
  have h2d := Lib.hid (h2.fr hf (fun _ _ h => h))
  clear hp hq h1 h2 hf
  by_cases hpq : p = q
  · subst hpq
    go_enter Tryd.func14, Tryd.ntmps14
    go_wp2_with (first
      | ((with_reducible refine wpl_string_bytes _ rfl 23 9 5 (.tmp 6) rfl ?_ ?_ ?_ _ _ ?_ _ b1 ?_); rfl; rfl; rfl; rfl)
      | ((with_reducible refine wpl_string_bytes _ rfl 23 9 5 (.tmp 9) rfl ?_ ?_ ?_ _ _ ?_ _ b2 ?_); rfl; rfl; rfl; rfl))
    refine (rmatch_any _ h1d.out h2d.out).mono ?_
    rintro e w2 ⟨rfl, hb2⟩
    have hbw : Hid (Below w.heap.size w w2) := hb.out.trans (hb2.mono hb.out.size)
    clear hb2
    go_wp2_with fail
    go_returns
    exact ⟨by simp, hbw.out⟩
  · have hpq' : (p == q) = false := by simpa using hpq
    go_enter Tryd.func14, Tryd.ntmps14
    go_wp2_with (first
      | ((with_reducible refine wpl_string_bytes _ rfl 23 9 5 (.tmp 6) rfl ?_ ?_ ?_ _ _ ?_ _ b1 ?_); rfl; rfl; rfl; rfl)
      | ((with_reducible refine wpl_string_bytes _ rfl 23 9 5 (.tmp 9) rfl ?_ ?_ ?_ _ _ ?_ _ b2 ?_); rfl; rfl; rfl; rfl))
    go_returns
    exact ⟨by rw [hpq']; rfl, hb.out⟩
theorem dg_at {w : World} {S : Nat → Prop} {A : Option Addr} {n c k : Nat} {l : List Sy.Dg} {x : Sy.Dg} (h : RdE lDg w S A n c l) (hx : l[k]? = some x) : ∃ b o A1 n1 c1 B1 m1 d1, A = some ⟨b, o, none⟩ ∧ b < w.heap.size ∧ Rd w S A1 n1 c1 x.pre ∧ Rd w S B1 m1 d1 x.sum ∧
    w.rangeAt b (o + k * 3) [.slice A1 n1 c1, .slice B1 m1 d1, .int .i64 x.count] := by
  obtain ⟨b, o, u, rfl, -, hb, ⟨A1, n1, c1, B1, m1, d1, rfl, h1, h2⟩, hc⟩ := h.get hx
  exact ⟨b, o, A1, n1, c1, B1, m1, d1, rfl, hb, h1, h2, fun j v hj => hc j v hj⟩
set_option maxRecDepth 100000 in
/-- The law's digests, of two lists that are the same. -/
theorem digests_any (l : List Sy.Dg) (w : World) {A1 A2 : Option Addr} {n1 c1 n2 c2 : Nat} (ha : RdE lDg w (fun _ => True) A1 n1 c1 l) (hb : RdE lDg w (fun _ => True) A2 n2 c2 l) (hn : n1 ≤ 100000000) :
    Calls Tryd.prog 17 #[.slice A1 n1 c1, .slice A2 n2 c2] w fun e w' => e = .returned (.bool true) ∧ Below w.heap.size w w' := by
  have hne : n1 = n2 := by rw [ha.len, hb.len]
  subst hne
  have had := Lib.hid ha
  have hbd := Lib.hid hb
  have hla := Lib.hid ha.len
  clear ha hb
  go_enter Tryd.func17, Tryd.ntmps17
  go_wp2_with fail
  go_loopw [5] (fun t wr => ∃ k : Nat, k ≤ n1 ∧ t = .int .i64 k ∧ Below w.heap.size w wr) (fun t _ => n1 - (intOf t).toNat)
  case atStart => exact ⟨0, Nat.zero_le _, rfl, Below.refl _ _⟩
  case round =>
    obtain ⟨k, hk, rfl, hb⟩ := hrel
    have hbr := Lib.hid hb
    clear hb
    by_cases hlt : k < n1
    · have hka : k < l.length := by have := hla.out; omega
      obtain ⟨x, hx⟩ : ∃ x, l[k]? = some x := ⟨_, List.getElem?_eq_getElem hka⟩
      have hfr := Fr.of_below (F := fun _ => False) hbr.out
      obtain ⟨b1, o1, P1, p1, q1, T1, s1, u1, rfl, hbl1, hw1, ht1, hg1⟩ := dg_at (had.out.fr hfr (fun _ _ h => h)) hx
      obtain ⟨b2, o2, P2, p2, q2, T2, s2, u2, rfl, hbl2, hw2, ht2, hg2⟩ := dg_at (hbd.out.fr hfr (fun _ _ h => h)) hx
      have hw1d := Lib.hid (And.intro hw1 ht1)
      have hw2d := Lib.hid (And.intro hw2 ht2)
      have hg1d := Lib.hid (And.intro hg1 hbl1)
      have hg2d := Lib.hid (And.intro hg2 hbl2)
      obtain ⟨z, hz⟩ : ∃ z, x.count = z := ⟨_, rfl⟩
      have hzd := Lib.hid hz
      clear hx hw1 ht1 hw2 ht2 hg1 hg2 hbl1 hbl2 hfr hka hz
      go_wp2_with fail
      refine wp_region_late Ab Ab.refl Ab.trans [] (.one [0, 1, 4, 5] [2, 3, 6, 7] 8 (.last [9] [])) (by kernel_rfl) (by kernel_rfl) (fun _ _ _ _ _ h => h) ?_
      simp only [wpSchV, ordPick, Option.toList_some, List.cons_append, List.nil_append, List.getElem?_cons_succ, List.getElem?_cons_zero]
      have hbd2 : Hid (Ab wr wr.drew) := ab_drew wr
      obtain ⟨w7, hw7⟩ : ∃ w7, wr.drew = w7 := ⟨_, rfl⟩
      rw [hw7] at hbd2 ⊢
      clear hw7
      have g1 : ∀ w', Ab w7 w' → w'.rangeAt b1 (o1 + k * 3) [.slice P1 p1 q1, .slice T1 s1 u1, .int .i64 z] := fun w' h => hzd.out ▸ range_ab hg1d.out.1 hg1d.out.2 (Ab.trans _ _ _ hbd2.out h)
      have g2 : ∀ w', Ab w7 w' → w'.rangeAt b2 (o2 + k * 3) [.slice P2 p2 q2, .slice T2 s2 u2, .int .i64 z] := fun w' h => hzd.out ▸ range_ab hg2d.out.1 hg2d.out.2 (Ab.trans _ _ _ hbd2.out h)
      iterate 4 (go_big_quiet_step (exact fun _ => rfl))
      refine wpQuiet_nil ?_
      iterate 1 (go_big_quiet_step (exact fun _ => rfl))
      refine wpq_load_midw rfl 30 (.tmp 19) rfl b1 (o1 + k * 3) rfl _ g1 _ Tryd.underlying30 rfl (by kernel_rfl) ?_
      simp only [Act.put, List.setIfInBounds_toArray, List.set_cons_succ, List.set_cons_zero]
      iterate 1 (go_big_quiet_step (exact fun _ => rfl))
      refine wpq_load_midw rfl 30 (.tmp 23) rfl b2 (o2 + k * 3) rfl _ g2 _ Tryd.underlying30 rfl (by kernel_rfl) ?_
      simp only [Act.put, List.setIfInBounds_toArray, List.set_cons_succ, List.set_cons_zero]
      refine wpQuiet_nil ?_
      clear g1 g2
      go_wp2_with fail
      have hd := rdsame_any w7 (z1 := z) (z2 := z) (hw1d.out.1.ab hbd2.out) (hw2d.out.1.ab hbd2.out) (hw1d.out.2.ab hbd2.out) (hw2d.out.2.ab hbd2.out)
      rw [show (x.pre == x.pre && (decide (z = z) && x.sum == x.sum)) = true by simp] at hd
      refine hd.mono ?_
      rintro e w8 ⟨rfl, hb8⟩
      have hb8d : Hid (Ab w7 w8) := hb8
      have hb08 : Hid (Below w.heap.size w w8) := hbr.out.trans ((Ab.trans _ _ _ hbd2.out hb8).mono hbr.out.size)
      clear hb8 hd
      go_wp2_with fail
      refine And.intro (.inr hb8d.out) ?_
      simp only
      iterate 1 (go_big_quiet_step (exact fun _ => rfl))
      refine wpQuiet_nil (wpQuiet_nil ?_)
      go_wp2_with fail
      go_roundw
      case rel => exact ⟨k + 1, by omega, by go_num, hb08.out⟩
      case measure => simp [intOf]; omega
    · have hkn := Lib.hid (show k = n1 by omega)
      go_wp2_with fail
      go_returns
      exact ⟨rfl, hbr.out⟩
end Go.Proofs.YtajohibeoicepaaDoor

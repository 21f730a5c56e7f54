/-
  Children, walked.
-/
import Derived.Test.YtajohibeoicepaaDoorSyDig
import Derived.Test.YtajohibeoicepaaDoorSyOwn
namespace Sy
/-- The digests of the parts one digit longer, the first k. -/
def kidsT (s : List Cm) (p : List UInt8) (k : Nat) : List Dg := (List.range k).map fun i => dig s (p ++ [UInt8.ofNat i])
def kids (s : List Cm) (p : List UInt8) : List Dg := kidsT s p 16
theorem kidsT_succ (s : List Cm) (p : List UInt8) (k : Nat) : kidsT s p (k + 1) = kidsT s p k ++ [dig s (p ++ [UInt8.ofNat k])] := by simp [kidsT, List.range_succ]
end Sy
namespace Go.Proofs.YtajohibeoicepaaDoor
open Go.RowKit Go.Pl
set_option maxRecDepth 100000 in
theorem kids_any (w : World) {A P : Option Addr} {n c pn pc : Nat} {l : List Sy.Cm} {ps : List UInt8} (hK : Kst w) (hs : RdE lCm w (fun i => i < w.heap.size) A n c l) (hn : n ≤ 16) (hz : ∀ x ∈ l, Sy.csz x ≤ 30000000) (hp : Rd w (fun i => i < w.heap.size) P pn pc ps) (hpn : pn ≤ 9000000) :
    Calls Tryd.prog 18 #[.slice A n c, .slice P pn pc] w fun e w' => ∃ A' c', e = .returned (.slice A' 16 c') ∧ RdE lDg w' (fun i => w.heap.size ≤ i) A' 16 c' (Sy.kids l ps) ∧ Below w.heap.size w w' := by
  have hsd := Lib.hid hs
  have hpd := Lib.hid hp
  have hzd := Lib.hid hz
  have hKd := Lib.hid hK
  have hnd := Lib.hid hn
  have hpl := Lib.hid hp.len
  have hpnd := Lib.hid hpn
  clear hs hp hz hK hn hpn
  go_enter Tryd.func18, Tryd.ntmps18
  go_wp2_with fail
  go_loopw [7, 5] (fun t u wr => ∃ (k : Nat) (B : Option Addr) (d : Nat), k ≤ 16 ∧ t = .int .u8 (k : Int) ∧ u = .slice B k d ∧ OwnX lDg wr (fun i => w.heap.size ≤ i) w.heap.size 30 u k (Sy.kidsT l ps k) ∧ Below w.heap.size w wr) (fun t u _ => 16 - (intOf t).toNat)
  case atStart => exact ⟨0, none, 0, by omega, rfl, rfl, OwnX.nil _ _ _ _ _, Below.refl _ _⟩
  case round =>
    obtain ⟨k, B, d, hk, rfl, rfl, ho, hb⟩ := hrel
    have hbd := Lib.hid hb
    have hod := Lib.hid ho
    clear hb ho
    by_cases hlt : k < 16
    · have hy : Hid (((UInt8.ofNat k).toNat : Int) = (k : Int)) := by show _ = _; rw [UInt8.toNat_ofNat']; omega
      have hf := Fr.of_below (F := fun _ => False) hbd.out
      go_wp2_with fail
      have hL := longer_any wr (P := P) (pn := pn) (pc := pc) (ps := ps) (UInt8.ofNat k) ((hpd.out.fr hf (fun _ _ h => h)).mono (fun i hi _ => hi)) (by have := hpnd.out; omega)
      rw [hy.out] at hL
      refine hL.mono ?_
      rintro e w1 ⟨D, m, c1, rfl, hr1, hb1⟩
      have hb1d := Lib.hid hb1
      have hr1d := Lib.hid hr1
      have hbw1 : Hid (Below w.heap.size w w1) := hbd.out.trans (hb1.mono hbd.out.size)
      have hm1 : Hid (m = ps.length + 1) := by show _ = _; rw [hr1.len]; simp
      clear hr1 hb1 hf hL
      go_wp2_with fail
      have hf1 := Fr.of_below (F := fun _ => False) hbw1.out
      refine (digest_any w1 (hKd.out.below hbw1.out hKd.out.pos) ((hsd.out.fr hf1 (fun _ _ h => h)).mono (fun i hi _ => hi)) hnd.out hzd.out (hr1d.out.mono (fun i hi _ => hi)) (by have := hm1.out; have := hpnd.out; have := hpl.out; omega)).mono ?_
      rintro e w2 ⟨P2, p2, q2, A2, n2, c2, rfl, hrp, hra, hb2⟩
      have hbw2 : Hid (Below w.heap.size w w2) := hbw1.out.trans (hb2.mono hbw1.out.size)
      have hbr2 : Hid (Below wr.heap.size wr w2) := hb1d.out.trans (hb2.mono hb1d.out.size)
      have hrpd := Lib.hid hrp
      have hrad := Lib.hid hra
      have hs12 : Hid (wr.heap.size ≤ w1.heap.size) := hb1d.out.size
      obtain ⟨vs, o2, hE2⟩ := hod.out.up hbr2.out
      have hE2d := Lib.hid hE2
      have hown2 := Lib.hid o2
      obtain ⟨Z, hZ⟩ : ∃ Z : Int, ((Sy.part (ps ++ [UInt8.ofNat k]) l).length : Int) = Z := ⟨_, rfl⟩
      have hZd := Lib.hid hZ
      rw [hZ]
      have o4 : (w2.alloc (.cells #[.slice P2 p2 q2, .slice A2 n2 c2, .int .i64 Z] 30)).ownsRow w.heap.size 30 3 (.slice B k d) k vs := own_alc o2 _
      have ro4 : Row (w2.alloc (.cells #[.slice P2 p2 q2, .slice A2 n2 c2, .int .i64 Z] 30)) (fun i => i = w2.heap.size) 3 (some ⟨w2.heap.size, 0, none⟩) 1 1 [.slice P2 p2 q2, .slice A2 n2 c2, .int .i64 Z] := Row.new w2 _ _ _ rfl rfl (by decide)
      have on4 := one3 (.slice P2 p2 q2) (.slice A2 n2 c2) (.int .i64 Z)
      have hs4 : w.heap.size ≤ (w2.alloc (.cells #[.slice P2 p2 q2, .slice A2 n2 c2, .int .i64 Z] 30)).heap.size := Nat.le_trans hbw2.out.size ((Below.refl w.heap.size w2).alloc hbw2.out.size _).size
      clear hf1 hrp hra hb2 hE2 o2 hZ
      go_wp2_with (at_builtin; refine wpl_app rfl (.tmp 10) (.tmp 16) 33 rfl w.heap.size 30 _ 3 56 Tryd.underlying33 infoDg rfl (by decide) (by decide) _ rfl k vs o4 _ _ 1 1 rfl _ ro4 on4 (by omega) hs4 (k + 1) rfl ?h2)
      case h2 =>
        intro A5 c5 w5 o5 g5 b5
        have hb5 : Below w.heap.size w w5 := app_below (hbw2.out.alloc hbw2.out.size _) g5 (fun k e => (own_lt o4 k e).1) hs4
        have hlt4 := fun g (e : (Value.slice B k d).ownBlock = some g) => (own_lt hown2.out g e).2
        have hdg : lDg.R w2 (fun i => w.heap.size ≤ i ∧ (Value.slice B k d).ownBlock ≠ some i) (Sy.dig l (ps ++ [UInt8.ofNat k])) [.slice P2 p2 q2, .slice A2 n2 c2, .int .i64 Z] := by
          have hlt4 : ∀ g, (Value.slice B k d).ownBlock = some g → g < wr.heap.size := fun g e => (own_lt hod.out.choose_spec.1 g e).2
          refine ⟨P2, p2, q2, A2, n2, c2, by rw [← hZd.out]; rfl, hrpd.out.mono (fun i _ h => ⟨Nat.le_trans hbw1.out.size h, fun e => ?_⟩), hrad.out.mono (fun i _ h => ⟨Nat.le_trans hbw1.out.size h, fun e => ?_⟩)⟩
          · have := hlt4 i e; have := hs12.out; omega
          · have := hlt4 i e; have := hs12.out; omega
        have hfa := (Fr.refl (fun _ => False) w2).alloc (.cells #[.slice P2 p2 q2, .slice A2 n2 c2, .int .i64 Z] 30)
        have hX : Hid (OwnX lDg w5 (fun i => w.heap.size ≤ i) w.heap.size 30 (.slice A5 (k + 1) c5) (k + 1) (Sy.kidsT l ps k ++ [Sy.dig l (ps ++ [UInt8.ofNat k])])) :=
          OwnX.app (hE2d.out.fr hfa (fun _ _ h => h)) (Els.single (lDg.fr hdg hfa (fun _ _ h => h))) o5 g5 (by rw [World.size_alloc]; exact b5)
        have hb5d := Lib.hid hb5
        clear o4 ro4 on4 hs4 o5 g5 b5 hb5 hlt4 hdg hfa
        go_wp2_with fail
        go_roundw
        case rel => exact ⟨k + 1, A5, c5, by omega, by go_num, rfl, by rw [Sy.kidsT_succ]; exact hX.out, hb5d.out⟩
        case measure => simp [intOf]; omega
    · obtain rfl : k = 16 := by omega
      go_wp2_with fail
      go_returns
      exact ⟨B, d, rfl, hod.out.rd.mono (fun i _ h => h.elim id id), hbd.out⟩
end Go.Proofs.YtajohibeoicepaaDoor

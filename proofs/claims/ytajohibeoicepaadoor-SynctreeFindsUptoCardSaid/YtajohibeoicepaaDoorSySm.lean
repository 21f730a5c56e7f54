/-
  bytes.Equal, longer, match, Valid, walked.
-/
import Derived.Test.YtajohibeoicepaaDoorSyPart
namespace Sy
/-- A digest's form. -/
def valid (d : Dg) : Bool := d.pre.all (fun b => b.toNat ≤ 15) && (decide (d.sum.length = 32) && decide (0 ≤ d.count))
/-- Same sum and count. -/
def same (x y : Dg) : Bool := decide (x.count = y.count) && x.sum == y.sum
end Sy
namespace Go.Proofs.YtajohibeoicepaaDoor
open Go.RowKit Go.Pl
theorem own_blk {w : World} {g n : Nat} {base : Nat} {e : TypeId} {xs : List Value} (h : w.ownsRow base e 1 (.slice (some ⟨g, 0, none⟩) n n) n xs) : Blk w g e xs.toArray := by
  obtain ⟨hl, h⟩ := h
  rcases h with ⟨he, h0⟩ | ⟨g', cap, cur, he, hb, hg, hnc, hcm, hcs, ht⟩
  · cases he
  · cases he
    have e1 : cur = xs.toArray := by
      apply Array.ext'
      rw [← ht, List.take_of_length_le (by simp [hcs])]
    exact e1 ▸ hg
theorem rd_blk {w : World} {g : Nat} {e : TypeId} {bs : List UInt8} (h : Blk w g e (bs.map u8v).toArray) (hl : bs.length ≤ 100000000) : Rd w (fun i => i = g) (some ⟨g, 0, none⟩) bs.length bs.length bs := by
  refine ⟨rfl, Nat.le_refl _, by simp only [maxLen]; omega, (fun e => by cases e), fun _ => ⟨g, 0, rfl, rfl, h.lt, fun i hi => ?_⟩⟩
  rw [h.cell (0 + i), Nat.zero_add]
  simp [hi, u8v]
theorem infoByte : (Tryd.prog.info? 5).map (fun i => (i.zero, i.size, i.bytes)) = some (some (.int .u8 0), 1, 1) := by kernel_rfl
theorem bequal_any (w : World) {S1 S2 : Nat → Prop} {A1 A2 : Option Addr} {n1 c1 n2 c2 : Nat} {a b : List UInt8} (h1 : Rd w S1 A1 n1 c1 a) (h2 : Rd w S2 A2 n2 c2 b) :
    Calls Tryd.prog 57 #[.slice A1 n1 c1, .slice A2 n2 c2] w fun e w' => e = .returned (.bool (a == b)) ∧ w = w' := by
  have b1 := h1.all
  have b2 := h2.all
  clear h1 h2
  go_enter Tryd.func57, Tryd.ntmps57
  go_wp2_with (first
    | ((with_reducible refine wpl_string_bytes _ rfl 23 9 5 (.tmp 5) rfl ?_ ?_ ?_ w.heap.size _ ?_ _ b1 ?_); rfl; rfl; rfl; rfl)
    | ((with_reducible refine wpl_string_bytes _ rfl 23 9 5 (.tmp 7) rfl ?_ ?_ ?_ w.heap.size _ ?_ _ b2 ?_); rfl; rfl; rfl; rfl))
  go_ret
  exact ⟨rfl, rfl⟩
set_option maxRecDepth 100000 in
theorem longer_any (w : World) {P : Option Addr} {pn pc : Nat} {ps : List UInt8} (y : UInt8) (hp : Rd w (fun i => i < w.heap.size) P pn pc ps) (hn : pn ≤ 10000000) :
    Calls Tryd.prog 41 #[.slice P pn pc, .int .u8 (y.toNat : Int)] w fun e w' => ∃ D k c, e = .returned (.slice D k c) ∧ Rd w' (fun i => w.heap.size ≤ i) D k c (ps ++ [y]) ∧ Below w.heap.size w w' := by
  obtain rfl := hp.len
  have hpd := Lib.hid hp
  clear hp
  have hmk : Hid ((ps.length + 1) * 1 ≤ 281474976710656) := by show _ ≤ _; omega
  have hcz : Hid (ps.length ≤ ((List.replicate (ps.length + 1) (Value.int .u8 0)).toArray).size) := by show _ ≤ _; simp
  have hcp : Hid (ps.map u8v ++ (List.replicate (ps.length + 1) (Value.int .u8 0)).drop ps.length = ps.map u8v ++ [Value.int .u8 0]) := by show _ = _; simp
  go_enter Tryd.func41, Tryd.ntmps41
  go_wp2_with (refine wpl_make rfl 23 (.tmp 8) (.tmp 8) rfl w.heap.size 5 (.int .u8 0) 1 Tryd.underlying23 infoByte rfl (by decide) .i64 .i64 (ps.length + 1) rfl rfl hmk.out (Nat.le_refl _) ?h0)
  case h0 =>
    intro w1 ho1 hg1
    have hb1 : Below w.heap.size w w1 := (Below.refl w.heap.size w).grown hg1 (Nat.le_refl _) (fun k hk => by cases hk)
    have hS1 := own_blk ho1
    have hlt1 := hS1.lt
    have hr1 := hpd.out.keep hb1.size (fun q hq _ => hb1.cell hq)
    clear ho1 hg1
    go_wp2_with (refine wpl_copy_rd rfl (.tmp 10) (.tmp 11) 23 23 rfl 5 Tryd.underlying23 (by kernel_rfl) w.heap.size (ps.length + 1) (ps.length + 1) rfl 5 _ hS1 _ _ _ _ ps hr1 rfl (Nat.le_succ _) hcz.out ?h1)
    case h1 =>
      intro w2 hk2 hg2
      have hb2 : Below w.heap.size w w2 := hb1.grown hg2 (by omega) (fun k hk => by cases hk; exact Nat.le_refl _)
      have hk3 : Blk w2 w.heap.size 5 (ps.map u8v ++ [Value.int .u8 0]).toArray := hcp.out ▸ hk2
      have hb2d := Lib.hid hb2
      have hk3d := Lib.hid hk3
      have f2 := hk3.frozen ps.length
      have g2 : w2.cell? ⟨w.heap.size, ps.length, none⟩ = some (.int .u8 0) := by
        rw [hk3.cell]; simp
      have hy := Lib.hid (wrap_u8 y)
      clear hk2 hg2 hr1 hS1 hb1 hb2 hk3
      go_wp2_with fail
      go_returns
      have hk4 := hk3d.out.set_ ps.length (.int .u8 (y.toNat : Int))
      have e : (ps.map u8v ++ [Value.int .u8 0]).toArray.setIfInBounds ps.length (.int .u8 (y.toNat : Int)) = ((ps ++ [y]).map u8v).toArray := by
        apply Array.ext'
        rw [Array.toList_setIfInBounds, List.set_append_right _ _ (by simp)]
        simp [u8v]
      rw [e] at hk4
      refine ⟨_, _, _, rfl, ?_, hb2d.out.setCell (p := ⟨w.heap.size, ps.length, none⟩) (Nat.le_refl _) _⟩
      have h := rd_blk hk4 (by simp; omega)
      rw [List.length_append, List.length_singleton] at h
      exact h.mono (fun i _ h => Nat.le_of_eq h.symm)
theorem gneZ {a b : Int} (h : ¬ a = b) : (a == b) = false := by simpa using h
set_option maxRecDepth 100000 in
theorem match_any (w : World) {S1 S2 : Nat → Prop} {P1 P2 A1 A2 : Option Addr} {p1 q1 p2 q2 n1 c1 n2 c2 : Nat} {a b : List UInt8} {z1 z2 : Int} (h1 : Rd w S1 A1 n1 c1 a) (h2 : Rd w S2 A2 n2 c2 b) :
    Calls Tryd.prog 42 #[.agg #[.slice P1 p1 q1, .slice A1 n1 c1, .int .i64 z1], .agg #[.slice P2 p2 q2, .slice A2 n2 c2, .int .i64 z2]] w fun e w' => e = .returned (.bool (decide (z1 = z2) && a == b)) ∧ Below w.heap.size w w' := by
  have h1d := Lib.hid h1
  have h2d := Lib.hid h2
  clear h1 h2
  by_cases hz : z1 = z2
  · subst hz
    go_enter Tryd.func42, Tryd.ntmps42
    go_wp2_with fail
    have hf : Fr (fun _ => False) w ((w.alloc (.cells #[.slice P1 p1 q1, .slice A1 n1 c1, .int .i64 z1] 30)).alloc (.cells #[.slice P2 p2 q2, .slice A2 n2 c2, .int .i64 z1] 30)) := ((Fr.refl _ w).alloc _).alloc _
    refine (bequal_any _ (h1d.out.fr hf (fun _ _ h => h)) (h2d.out.fr hf (fun _ _ h => h))).mono ?_
    rintro e w2 ⟨rfl, rfl⟩
    go_wp2_with fail
    go_returns
    exact ⟨by simp, hf.below (fun _ h => h.elim) (Nat.le_refl _)⟩
  · have hz' := gneZ hz
    go_enter Tryd.func42, Tryd.ntmps42
    go_wp2_with fail
    go_returns
    have hf : Fr (fun _ => False) w ((w.alloc (.cells #[.slice P1 p1 q1, .slice A1 n1 c1, .int .i64 z1] 30)).alloc (.cells #[.slice P2 p2 q2, .slice A2 n2 c2, .int .i64 z2] 30)) := ((Fr.refl _ w).alloc _).alloc _
    exact ⟨by rw [decide_eq_false hz]; rfl, hf.below (fun _ h => h.elim) (Nat.le_refl _)⟩
set_option maxRecDepth 100000 in
theorem valid_any (d : Sy.Dg) (w : World) {S1 S2 : Nat → Prop} {P A : Option Addr} {pn pc n c : Nat} (hp : Rd w S1 P pn pc d.pre) (hs : Rd w S2 A n c d.sum) :
    Calls Tryd.prog 21 #[.agg #[.slice P pn pc, .slice A n c, .int .i64 d.count]] w fun e w' => e = .returned (.bool (Sy.valid d)) ∧ Below w.heap.size w w' := by
  have hnl := Lib.hid hs.len
  have hpm : pn ≤ 9223372036854775807 := Nat.le_trans hp.le hp.max
  have hpl := Lib.hid hp.len
  have hpd := Lib.hid hp
  clear hp hs
  obtain ⟨z, hz0⟩ : ∃ z, d.count = z := ⟨_, rfl⟩
  rw [hz0]
  have hzd := Lib.hid hz0
  clear hz0
  go_enter Tryd.func21, Tryd.ntmps21
  go_wp2_with fail
  obtain ⟨w1, hw1⟩ : ∃ w1, w.alloc (.cells #[.slice P pn pc, .slice A n c, .int .i64 z] 30) = w1 := ⟨_, rfl⟩
  have hX : Blk w1 w.heap.size 30 #[.slice P pn pc, .slice A n c, .int .i64 z] := by rw [← hw1]; exact Blk.new' rfl
  have hb1 : Hid (Below w.heap.size w w1) := by show Below _ _ _; rw [← hw1]; exact (Below.refl _ w).alloc (Nat.le_refl _) _
  rw [hw1]
  have hXd := Lib.hid hX
  have hp1 : Hid (Rd w1 S1 P pn pc d.pre) := hpd.out.keep hb1.out.size (fun q hq _ => hb1.out.cell hq)
  clear hX hw1
  go_loopw [8] (fun t wr => ∃ k : Nat, k ≤ pn ∧ t = .int .i64 k ∧ (∀ b ∈ d.pre.take k, b.toNat ≤ 15) ∧ wr = w1) (fun t _ => pn - (intOf t).toNat)
  case atStart => exact ⟨0, Nat.zero_le _, rfl, by simp, rfl⟩
  case round =>
    obtain ⟨k, hk, rfl, hall, rfl⟩ := hrel
    by_cases hlt : k < pn
    · obtain ⟨b, o, rfl, -, hbl, hcell⟩ := hp1.out.at_ (by omega)
      obtain ⟨v, hv⟩ : ∃ v, d.pre.getD k 0 = v := ⟨_, rfl⟩
      have g : wr.cell? ⟨b, o + k, none⟩ = some (.int .u8 (v.toNat : Int)) := hv ▸ hcell k hlt
      have hvd := Lib.hid hv
      have halld := Lib.hid hall
      clear hv hcell hbl hall
      by_cases h15 : v.toNat ≤ 15
      · have h15' : ¬ (15 : Int) < (v.toNat : Int) := by omega
        go_wp2_with fail
        go_roundw
        case rel =>
          refine ⟨k + 1, by omega, by go_num, fun y hy => ?_, trivial⟩
          have hkl : k < d.pre.length := by have := hpl.out; omega
          rw [List.take_succ_eq_append_getElem hkl] at hy
          rcases List.mem_append.1 hy with hy | hy
          · exact halld.out y hy
          · have : y = v := by
              rw [List.mem_singleton.1 hy, ← hvd.out]
              simp [hkl]
            rw [this]; exact h15
        case measure => simp [intOf]; omega
      · have h15' : (15 : Int) < (v.toNat : Int) := by omega
        have hkl := Lib.hid hlt
        clear hlt
        go_wp2_with fail
        go_returns
        refine ⟨?_, hb1.out⟩
        have hkp : k < d.pre.length := by have := hpl.out; have := hkl.out; omega
        have hm : v ∈ d.pre := by
          rw [← hvd.out]
          simp [hkp]
        have : Sy.valid d = false := by
          unfold Sy.valid
          have h : d.pre.all (fun b => decide (b.toNat ≤ 15)) = false := by
            rw [Bool.eq_false_iff]
            intro h
            have := of_decide_eq_true (List.all_eq_true.1 h v hm)
            omega
          rw [h]; rfl
        rw [this]; rfl
    · have hkn := Lib.hid (show k = pn by omega)
      have halld := Lib.hid hall
      have c1 : wr.cell? ⟨w.heap.size, 1, none⟩ = some (.slice A n c) := (hXd.out.cell 1).trans rfl
      have c2 : wr.cell? ⟨w.heap.size, 2, none⟩ = some (.int .i64 z) := (hXd.out.cell 2).trans rfl
      have hv : Hid (Sy.valid d = (decide (n = 32) && decide (0 ≤ z))) := by
        show _ = _
        unfold Sy.valid
        have h : d.pre.all (fun b => decide (b.toNat ≤ 15)) = true := List.all_eq_true.2 fun y hy => decide_eq_true (halld.out y (by rw [hkn.out, hpl.out, List.take_length]; exact hy))
        rw [h, hnl.out, hzd.out]; rfl
      clear hall
      by_cases h32 : n = 32
      · subst h32
        by_cases hz0 : 0 ≤ z
        · have hz1 : decide (0 ≤ z) = true := decide_eq_true hz0
          go_wp2_with fail
          go_returns
          exact ⟨by rw [hv.out, hz1]; rfl, hb1.out⟩
        · have hz1 : decide (0 ≤ z) = false := decide_eq_false hz0
          go_wp2_with fail
          go_returns
          exact ⟨by rw [hv.out, hz1]; rfl, hb1.out⟩
      · have h32' : ((n : Int) == 32) = false := gneZ (by omega)
        go_wp2_with fail
        go_returns
        exact ⟨by rw [hv.out, decide_eq_false h32]; rfl, hb1.out⟩
end Go.Proofs.YtajohibeoicepaaDoor

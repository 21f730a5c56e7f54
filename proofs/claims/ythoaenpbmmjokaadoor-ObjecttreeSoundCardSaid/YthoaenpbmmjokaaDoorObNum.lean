/-
  A number in four bytes, walked.
-/
import Derived.Test.YthoaenpbmmjokaaDoorObSplit
import Derived.Test.YthoaenpbmmjokaaDoorPart
import Derived.Test.YthoaenpbmmjokaaDoorStr
namespace Ob
/-- A number in four bytes. -/
def num (n : Nat) : List UInt8 := [UInt8.ofNat (n / 16777216), UInt8.ofNat (n / 65536), UInt8.ofNat (n / 256), UInt8.ofNat n]
theorem num_len (n : Nat) : (num n).length = 4 := rfl
end Ob
namespace Go.Proofs.YthoaenpbmmjokaaDoor
open Go.RowKit Go.Pl
theorem infoByte : (Tryd.prog.info? 5).map (fun i => (i.zero, i.size, i.bytes)) = some (some (.int .u8 0), 1, 1) := by kernel_rfl
def numRow (n j : Nat) : List Value := ((Ob.num n).take j).map u8v ++ List.replicate (4 - j) (.int .u8 0)
theorem u8_of (x : Nat) : u8v (UInt8.ofNat x) = .int .u8 ((x : Int) % 256) := by
  unfold u8v
  rw [UInt8.toNat_ofNat']
  rfl
theorem numRow_zero {n j : Nat} (h : j < 4) : (numRow n j)[j]? = some (.int .u8 0) := by
  have : j = 0 ∨ j = 1 ∨ j = 2 ∨ j = 3 := by omega
  rcases this with rfl | rfl | rfl | rfl <;> rfl
theorem numRow_set {n j : Nat} (h : j < 4) : (numRow n j).set j (.int .u8 ((n : Int) / 2 ^ (24 - 8 * j) % 256)) = numRow n (j + 1) := by
  have : j = 0 ∨ j = 1 ∨ j = 2 ∨ j = 3 := by omega
  rcases this with rfl | rfl | rfl | rfl
  all_goals simp only [numRow, Ob.num, List.take_succ_cons, List.take_zero, List.map_cons, List.map_nil, u8_of]
  all_goals simp [List.replicate_succ]
theorem numRow_all (n : Nat) : numRow n 4 = (Ob.num n).map u8v := by simp [numRow, Ob.num]
set_option maxRecDepth 100000 in
theorem number_any (w : World) (n : Nat) (_hn : n ≤ 1099511627776) :
    Calls Tryd.prog 42 #[.int .i64 n] w fun e w' => ∃ A m c, e = .returned (.slice A m c) ∧ Rd w' (fun i => w.heap.size ≤ i) A m c (Ob.num n) ∧ Below w.heap.size w w' := by
  have hbz : w.heap.size ≤ w.heap.size := Nat.le_refl _
  go_enter Tryd.func42, Tryd.ntmps42
  go_wp2_with (first | (refine wpl_make rfl 23 (.const (.int .i64 4)) (.const (.int .i64 4)) rfl w.heap.size 5 (.int .u8 0) 1 Tryd.underlying23 infoByte rfl (by decide) .i64 .i64 4 rfl rfl (by omega) hbz ?_; intro w1 ho1 hg1))
  have hb1 : Below w.heap.size w w1 := (Below.refl _ _).grown hg1 (Nat.le_refl _) (by intro k hk; cases hk)
  obtain ⟨g, hg⟩ : ∃ g, w.heap.size = g := ⟨_, rfl⟩
  rw [hg] at ho1
  rw [hg]
  have hgd := Lib.hid hg
  have ho1d := Lib.hid ho1
  have hb1d := Lib.hid hb1
  clear hg hg1 hb1 ho1
  go_wp2_with fail
  go_loopw [6] (fun t6 wr => ∃ j : Nat, j ≤ 4 ∧ t6 = .int .i64 j ∧ wr.ownsRow g 5 1 (.slice (some ⟨g, 0, none⟩) 4 4) 4 (numRow n j) ∧ Below w.heap.size w wr) (fun t6 _ => 4 - (intOf t6).toNat)
  case atStart => exact ⟨0, by omega, rfl, ho1d.out, hb1d.out⟩
  case round =>
    obtain ⟨j, hj, rfl, hor, hb⟩ := hrel
    have hord := Lib.hid hor
    have hbd := Lib.hid hb
    clear hor hb
    by_cases hlt : j < 4
    · have hltI : (j : Int) < 4 := by omega
      obtain ⟨hgw, hgs, hgc, hgf, hgset⟩ := own_g hord.out
      have hc : wr.cell? ⟨g, j, none⟩ = some (.int .u8 0) := by rw [hgc j hlt]; exact numRow_zero hlt
      have hf := hgf j
      have hsd := Lib.hid hgset
      clear hgc hgf hgset
      go_wp2_with fail
      go_roundw
      case rel => exact ⟨j + 1, by omega, by go_num, by rw [← numRow_set hlt]; exact hsd.out j _ hlt, hbd.out.setCell (by rw [hgd.out]; exact hgw) _⟩
      case measure => simp [intOf]; omega
    · have hltI : ¬ (j : Int) < 4 := by omega
      have hj4 : Hid (j = 4) := by show _ = _; omega
      go_wp2_with fail
      go_ret
      have h4 := hord.out
      rw [hj4.out, numRow_all] at h4
      exact ⟨_, _, _, rfl, (own_rd h4).mono (fun i _ hi => by have h5 : g = i := (by simpa [Value.ownBlock] using hi); rw [hgd.out]; omega), hbd.out⟩
end Go.Proofs.YthoaenpbmmjokaaDoor

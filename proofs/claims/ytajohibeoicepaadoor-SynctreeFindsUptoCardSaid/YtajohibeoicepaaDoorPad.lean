/-
  The reference's padding and digest; the digest of a slice.
-/
import Derived.Test.YtajohibeoicepaaDoorSum
import Derived.Test.YtajohibeoicepaaDoorRef
namespace Go.Proofs.YtajohibeoicepaaDoor
open Go.RowKit Go.Pl
/-- What 'Padded' hands back. -/
def PaddedTo (w : World) (bs : List UInt8) (e : Ending) (w' : World) : Prop :=
  ∃ R c, e = .returned (.slice R (Sha.pad bs).length c) ∧ w'.ownsRow w.heap.size 5 1 (.slice R (Sha.pad bs).length c) (Sha.pad bs).length ((Sha.pad bs).map u8v) ∧ Below w.heap.size w w'
set_option maxRecDepth 100000 in
set_option maxHeartbeats 4000000 in
theorem padded_any {A : Option Addr} {n c : Nat} {q : List UInt8} (w : World) (hA : Rd w (fun _ => True) A n c q) (hl : q.length ≤ 70368744177664) :
    Calls Tryd.prog 55 #[.slice A n c] w fun e w' => PaddedTo w q e w' := by
  obtain rfl := hA.len
  have hml : (q.length : Int) ≤ 70368744177664 := by omega
  have o1 := own_alloc w (Nat.le_refl _) 5 [] #[] rfl rfl (by decide)
  have f1 : Fr (fun _ => False) w (w.alloc (.cells #[] 5)) := (Fr.refl (fun _ => False) w).alloc _
  have b1 : Bytes (w.alloc (.cells #[] 5)) (w.alloc (.cells #[] 5)).heap.size (.slice A q.length c) q := (hA.fr f1 (fun _ _ h => h)).all
  go_enter Tryd.func55, Tryd.ntmps55
  go_wp2_with (first
    | ((with_reducible refine wpl_append_sl _ rfl (.tmp 6) (.tmp 7) 23 rfl w.heap.size 5 ?_ ?_ _ ?_ [] o1 _ _ ?_ q b1 (by simp; omega) f1.size q.length rfl ?_); rfl; kernel_rfl; rfl; rfl; intro R2 c2 w2 ho2 hg2 hb2;
          have f2 := f1.grown hg2 (fun g h => .inr (by have : w.heap.size = g := Option.some.inj h; omega));
          have o2 := own_new ho2 (.cells #[.int .u8 128] 5);
          have b2 := bytes_alloc w2 5 [128] #[.int .u8 128] rfl (by decide);
          have f3 := f2.alloc (.cells #[.int .u8 128] 5))
    | ((with_reducible refine wpl_append_sl _ rfl (.tmp 8) (.tmp 9) 23 rfl w.heap.size 5 ?_ ?_ _ ?_ q o2 _ _ ?_ [128] b2 (by simp; omega) f3.size (q.length + 1) (by simp) ?_); rfl; kernel_rfl; rfl; rfl; intro R3 c3 w3 ho3 hg3 hb3))
  have f4 := f3.grown hg3 (fun g h => .inr (own_base ho2 h))
  have hz := Sha.zeros_spec q.length
  have hzl : Sha.zeros q.length < 64 := by unfold Sha.zeros; omega
  have hzk : ∀ k, k < Sha.zeros q.length → (q.length + 1 + k) % 64 ≠ 56 := by intro k hk; unfold Sha.zeros at hk; omega
  generalize hZ : Sha.zeros q.length = Z at *
  go_loopw [3] (fun t wr => ∃ k A c, k ≤ Z ∧ t = .slice A (q.length + 1 + k) c ∧ wr.ownsRow w.heap.size 5 1 (.slice A (q.length + 1 + k) c) (q.length + 1 + k) ((q ++ [128] ++ List.replicate k 0).map u8v) ∧ Fr (fun _ => False) w wr) (fun t _ => q.length + 1 + Z - lenOf t)
  case atStart => exact ⟨0, R3, c3, Nat.zero_le _, rfl, by simpa using ho3, f4⟩
  case round =>
    obtain ⟨k, A, c, hk, rfl, hor, hfr⟩ := hrel
    by_cases hlt : k < Z
    · have hne := hzk k hlt
      have hne1 : ((q.length : Int) + 1 + (k : Int)) % 64 ≠ 56 := by omega
      have or1 := own_new hor (.cells #[.int .u8 0] 5)
      have br1 := bytes_alloc wr 5 [0] #[.int .u8 0] rfl (by decide)
      have fr1 := hfr.alloc (.cells #[.int .u8 0] 5)
      have hor1 : (wr.alloc (.cells #[.int .u8 0] 5)).ownsRow w.heap.size 5 1 (.slice A (q.length + 1 + k) c) (q ++ [128] ++ List.replicate k 0).length ((q ++ [128] ++ List.replicate k 0).map u8v) := by
        have e : (q ++ [128] ++ List.replicate k 0).length = q.length + 1 + k := by simp; omega
        rw [e]; exact or1
      go_wp2_with (first
        | ((with_reducible refine wpl_append_sl _ rfl (.tmp 15) (.tmp 16) 23 rfl w.heap.size 5 ?_ ?_ _ ?_ _ hor1 _ _ ?_ [0] br1 (by simp; omega) fr1.size (q.length + 1 + (k + 1)) (by simp; omega) ?_); rfl; kernel_rfl; rfl; rfl; intro R5 c5 w5 ho5 hg5 hb5))
      go_roundw
      case rel =>
        refine ⟨k + 1, R5, c5, hlt, rfl, ?_, fr1.grown hg5 (fun g h => .inr (own_base hor1 h))⟩
        rw [List.replicate_succ', ← List.append_assoc]; exact ho5
      case measure => simp [lenOf]; omega
    · have hkz : Hid (k = Z) := show k = Z by omega
      have heq1 : ((q.length : Int) + 1 + (k : Int)) % 64 = 56 := by have := hkz.out; omega
      obtain ⟨T, hT'⟩ : ∃ T : List UInt8, T = q ++ [128] ++ List.replicate Z 0 := ⟨_, rfl⟩
      have hT : Hid (T = q ++ [128] ++ List.replicate Z 0) := hT'
      clear hT'
      obtain ⟨N, hN⟩ : ∃ N, Hid (N = q.length + 1 + k) := ⟨_, rfl⟩
      have hTl : Hid (T.length = N) := show T.length = N by rw [hT.out, hN.out, hkz.out]; simp; omega
      have hN56 : (N : Int) % 64 = 56 := by have := hN.out; have := hkz.out; omega
      have hNs : N ≤ 70368744177800 := by have := hN.out; omega
      have horT : wr.ownsRow w.heap.size 5 1 (.slice A N c) N (T.map u8v) := by rw [hT.out, hN.out, ← hkz.out]; exact hor
      rw [← hN.out]
      go_wp2_with fail
      clear hN56 heq1
      go_loopw [3, 5] (fun t3 t5 wr2 => ∃ k2 A2 c2', k2 ≤ 8 ∧ t3 = .slice A2 (N + k2) c2' ∧ t5 = .int .i64 (56 - 8 * (k2 : Int)) ∧ wr2.ownsRow w.heap.size 5 1 (.slice A2 (N + k2) c2') (N + k2) ((T ++ (Sha.be64 (8 * q.length)).take k2).map u8v) ∧ Fr (fun _ => False) w wr2) (fun t3 t5 _ => (intOf t5 + 8).toNat)
      case atStart => exact ⟨0, A, c, by omega, rfl, rfl, by simpa using horT, hfr⟩
      case round =>
        obtain ⟨k2, A2, c2', hk2, rfl, rfl, hor2, hfr2⟩ := hrel
        by_cases hlt8 : k2 < 8
        · obtain ⟨x, hx'⟩ : ∃ x : UInt8, x = UInt8.ofNat ((8 * q.length) >>> (56 - 8 * k2)) := ⟨_, rfl⟩
          have hx : (q.length : Int) * 8 / 2 ^ (56 - 8 * k2) % 256 = (x.toNat : Int) := by rw [hx']; exact be64_byte _ _
          have htk : Hid ((Sha.be64 (8 * q.length)).take (k2 + 1) = (Sha.be64 (8 * q.length)).take k2 ++ [x]) := by show _ = _; rw [be64_take _ _ hlt8, hx']
          clear hx'
          obtain ⟨T2, hT2'⟩ : ∃ T2 : List UInt8, T2 = T ++ (Sha.be64 (8 * q.length)).take k2 := ⟨_, rfl⟩
          have hT2l : T2.length = N + k2 := by rw [hT2', List.length_append, hTl.out, List.length_take, Sha.length_be64]; omega
          rw [← hT2'] at hor2
          have hT2 : Hid (T2 = T ++ (Sha.be64 (8 * q.length)).take k2) := hT2'
          clear hT2'
          have or2 : (wr.alloc (.cells #[.int .u8 (x.toNat : Int)] 5)).ownsRow w.heap.size 5 1 (.slice A2 (N + k2) c2') T2.length (T2.map u8v) := by rw [hT2l]; exact own_new hor2 _
          have br2 := bytes_alloc wr 5 [x] #[.int .u8 (x.toNat : Int)] rfl (by simp [maxLen])
          have fr2 := hfr2.alloc (.cells #[.int .u8 (x.toNat : Int)] 5)
          have hl2 : (T2 ++ [x]).length = N + (k2 + 1) := by simp [hT2l]; omega
          have hT2s : T2.length + [x].length ≤ 140737488355328 := by simp [hT2l]; omega
          clear hT2l
          go_wp2_with (first
            | ((with_reducible refine wpl_append_sl _ rfl (.tmp 26) (.tmp 32) 23 rfl w.heap.size 5 ?_ ?_ _ ?_ _ or2 _ _ ?_ [x] br2 hT2s fr2.size (N + (k2 + 1)) hl2 ?_); rfl; kernel_rfl; rfl; rfl; intro R6 c6 w6 ho6 hg6 hb6))
          go_roundw
          case rel =>
            refine ⟨k2 + 1, R6, c6, hlt8, rfl, by go_num, ?_, fr2.grown hg6 (fun g h => .inr (own_base or2 h))⟩
            rw [htk.out, ← List.append_assoc, ← hT2.out]; exact ho6
          case measure => simp [intOf]; omega
        · have hk8 : Hid (k2 = 8) := show k2 = 8 by omega
          go_wp2_with fail
          go_ret
          have hpad : T ++ (Sha.be64 (8 * q.length)).take k2 = Sha.pad q := by
            rw [List.take_of_length_le (by rw [Sha.length_be64]; have := hk8.out; omega), hT.out, Sha.pad, Sha.tail, hZ]
          have hpl : (Sha.pad q).length = N + k2 := by rw [← hpad, List.length_append, hTl.out, List.length_take, Sha.length_be64]; have := hk8.out; omega
          rw [hpad, ← hpl] at hor2
          exact ⟨A2, c2', by rw [hpl]; rfl, hor2, hfr2.below (fun _ h => h.elim) (Nat.le_refl _)⟩
set_option maxRecDepth 100000 in
theorem sum_any {A : Option Addr} {n c : Nat} {bs : List UInt8} (w : World) (hK : Kst w) (hA : Rd w (fun _ => True) A n c bs) (hl : bs.length ≤ 70368744177664) :
    Calls Tryd.prog 36 #[.slice A n c] w fun e w' => e = .returned (.string ⟨(Sha.sha bs).toArray⟩) ∧ Below w.heap.size w w' := by
  have hA' : Rd w (fun i => i < w.heap.size) A n c bs := hA.mono (fun i hi _ => hi)
  go_enter Tryd.func36, Tryd.ntmps36
  go_wp2_with (first
    | (go_at_call 50; refine (new_any _).mono ?_; rintro e w1 ⟨p, rfl, hS1, hb1⟩;
          have hK1 := hK.below hb1 hK.pos;
          have hA1 : Rd w1 (fun i => i ≠ p ∧ (none : Option Nat) ≠ some i) A n c bs := (hA'.keep (w' := w1) hb1.size (fun q hq _ => hb1.cell hq)).mono (fun i _ hi => ⟨(by have := hS1.1; omega), (by simp)⟩))
    | (go_at_call 51; refine (write_any w1 hK.pos hK1 hS1 hA1 (by simp; omega)).mono ?_; rintro e w2 ⟨rfl, r', hS2, hf2, hr2⟩;
          have hb2 : Below w.heap.size w1 w2 := hf2.below (fun i h => h.elim (fun e => (by have := hS1.1; omega)) (fun e => (by cases e))) hb1.size;
          have hK2 := hK1.below hb2 hK.pos)
    | (go_at_call 52; refine (sumst_any w2 hK2 hS2 (by simp; omega)).mono ?_; rintro e w3 ⟨rfl, hb3⟩))
  go_ret
  exact ⟨rfl, (hb1.trans hb2).trans (hb3.mono (Nat.le_trans hb1.size hb2.size))⟩
end Go.Proofs.YtajohibeoicepaaDoor

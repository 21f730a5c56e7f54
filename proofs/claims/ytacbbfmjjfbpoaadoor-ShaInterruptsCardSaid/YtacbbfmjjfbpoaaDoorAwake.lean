/-
  The chapter's examples.
-/
import Derived.Test.YtacbbfmjjfbpoaaDoorClone
import Derived.Test.YtacbbfmjjfbpoaaDoorPad
import Derived.Test.YtacbbfmjjfbpoaaDoorUnhex
import Derived.Lib.SlBytesConst
namespace Hexa
theorem hex_abc : hex (Sha.sha [97, 98, 99]) = [98, 97, 55, 56, 49, 54, 98, 102, 56, 102, 48, 49, 99, 102, 101, 97, 52, 49, 52, 49, 52, 48, 100, 101, 53, 100, 97, 101, 50, 50, 50, 51, 98, 48, 48, 51, 54, 49, 97, 51, 57, 54, 49, 55, 55, 97, 57, 99, 98, 52, 49, 48, 102, 102, 54, 49, 102, 50, 48, 48, 49, 53, 97, 100] := by
  rw [Sha.sha_abc]; rfl
theorem unhex_00ff : unhex [48, 48, 102, 102] = ([0, 255], true) := by decide +kernel
end Hexa
namespace Go.Pl
theorem own_below {w w' : World} {base : Nat} {e : TypeId} {size n : Nat} {v : Value} {xs : List Value} (h : w.ownsRow base e size v n xs) (hb : RowKit.Below w.heap.size w w') : w'.ownsRow base e size v n xs :=
  own_fr h (Fr.of_below (F := fun _ => False) hb) (fun _ _ h => h)
end Go.Pl
namespace Go.Proofs.YtacbbfmjjfbpoaaDoor
open Go.RowKit Go.Pl
theorem StateAt.fr {F : Nat → Prop} {w w' : World} {B p : Nat} {m : List UInt8} {r : Option Nat} (h : StateAt w B p m r) (hf : Fr F w w') (hp : ¬ F p) (hr : ∀ g, r = some g → ¬ F g) : StateAt w' B p m r := by
  obtain ⟨h1, v, h2, h3, h4⟩ := h
  exact ⟨h1, v, h2, h3.fr hf hp, own_fr h4 hf (fun g hg => hr g (h2.trans hg))⟩
theorem StateAt.below {w w' : World} {B p : Nat} {m : List UInt8} {r : Option Nat} (h : StateAt w B p m r) (hb : Below w.heap.size w w') : StateAt w' B p m r :=
  h.fr (Fr.of_below (F := fun _ => False) hb) (fun h => h) (fun _ _ h => h)
theorem StateAt.lt {w : World} {B p : Nat} {m : List UInt8} {r : Option Nat} (h : StateAt w B p m r) : p < w.heap.size := by
  obtain ⟨_, _, _, h, _⟩ := h
  exact h.lt
/-- The literal's bytes as the conversion leaves them. -/
theorem convert_abc (w : World) : (convert 22 22 (.slice (some ⟨w.heap.size, 0, none⟩) 3 3)).run Tryd.prog (w.alloc (.cells #[.int .u8 97, .int .u8 98, .int .u8 99] 5)) =
    .ok (.slice (some ⟨w.heap.size, 0, none⟩) 3 3) (w.alloc (.cells #[.int .u8 97, .int .u8 98, .int .u8 99] 5 (3, 4))) :=
  Lib.run_convert_bytes_const w 22 5 _ 3 3 rfl rfl
theorem rd_abc (w : World) : Rd (w.alloc (.cells #[.int .u8 97, .int .u8 98, .int .u8 99] 5 (3, 4))) (fun i => i = w.heap.size) (some ⟨w.heap.size, 0, none⟩) 3 3 [97, 98, 99] := by
  refine ⟨rfl, Nat.le_refl _, by decide, (fun e => by cases e), fun _ => ⟨w.heap.size, 0, rfl, rfl, by simp, fun i hi => ?_⟩⟩
  rw [Nat.zero_add, cell_of_row _ w.heap.size i _ 5 (3, 4) (heap_alloc_new w _)]
  match i, hi with
  | 0, _ => rfl
  | 1, _ => rfl
  | 2, _ => rfl
set_option maxRecDepth 100000 in
set_option maxHeartbeats 4000000 in
theorem awake_any (w : World) (hK : Kst w) : Calls Tryd.prog 10 #[] w fun e w' => e = .returned (.bool true) ∧ Below w.heap.size w w' := by
  have hKp := hK.pos
  have hcv := convert_abc
  obtain ⟨D, hD'⟩ : ∃ D, D = Sha.sha [97, 98, 99] := ⟨_, rfl⟩
  have hD : Hid (D = Sha.sha [97, 98, 99]) := hD'
  have hDl : D.length ≤ 35184372088832 := by rw [hD', Sha.length_sha]; decide
  have hDh : Hid (Hexa.hex D = [98, 97, 55, 56, 49, 54, 98, 102, 56, 102, 48, 49, 99, 102, 101, 97, 52, 49, 52, 49, 52, 48, 100, 101, 53, 100, 97, 101, 50, 50, 50, 51, 98, 48, 48, 51, 54, 49, 97, 51, 57, 54, 49, 55, 55, 97, 57, 99, 98, 52, 49, 48, 102, 102, 54, 49, 102, 50, 48, 48, 49, 53, 97, 100]) := by show _ = _; rw [hD']; exact Hexa.hex_abc
  clear hD'
  go_enter Tryd.func10, Tryd.ntmps10
  go_wp2_with (first
    | (go_at_call 14; refine (new_any _).mono ?_; rintro e w1 ⟨p, rfl, hS1, hb1⟩;
          have hb1a := hb1.alloc hb1.size (.cells #[.int .u8 97, .int .u8 98, .int .u8 99] 5 (3, 4));
          have hS1a := hS1.below ((Below.refl _ _).alloc (Nat.le_refl _) (.cells #[.int .u8 97, .int .u8 98, .int .u8 99] 5 (3, 4)));
          have hK1 := hK.below hb1a hKp;
          have hp1 := hS1.lt;
          have hA1 := (rd_abc w1).mono (T := fun i => i ≠ p ∧ (none : Option Nat) ≠ some i) (fun _ _ h => ⟨(by omega), (by simp)⟩))
    | (go_at_call 15; refine (write_any _ hKp hK1 hS1a hA1 (by decide)).mono ?_; rintro e w2 ⟨rfl, r2, hS2, hf2, hr2⟩;
          have hb2 := hb1a.trans (hf2.below (B := w.heap.size) (fun i h => h.elim (fun e => (by have := hS1.1; omega)) (fun e => (by cases e))) hb1a.size))
    | (go_at_call 20; refine (unhex_any _ _ (by decide)).mono ?_; rw [Hexa.unhex_00ff]; rintro e w3 ⟨rfl, hb3'⟩;
          have hb3 := hb2.trans (hb3'.mono hb2.size);
          have hS3 := hS2.below hb3';
          have hb3a := hb3.alloc hb3.size (.cells #[.int .u8 97, .int .u8 98, .int .u8 99] 5 (3, 4));
          have hS3a := hS3.below ((Below.refl _ _).alloc (Nat.le_refl _) (.cells #[.int .u8 97, .int .u8 98, .int .u8 99] 5 (3, 4)));
          have hK3 := hK.below hb3a hKp;
          have hA3 := (rd_abc w3).mono (T := fun _ => True) (fun _ _ _ => trivial))
    | (go_at_call 11; refine (sum_any _ hK3 hA3 (by decide)).mono ?_; rw [← hD.out]; rintro e w4 ⟨rfl, hb4'⟩;
          have hb4 := hb3a.trans (hb4'.mono hb3a.size);
          have hS4 := hS3a.below hb4')
    | (go_at_call 19; refine (hex_any _ ⟨D.toArray⟩ hDl).mono ?_; rw [show ((⟨D.toArray⟩ : ByteArray).data.toList) = D from rfl, hDh.out]; rintro e w5 ⟨rfl, hb5'⟩;
          have hb5 := hb4.trans (hb5'.mono hb4.size);
          have hS5 := hS4.below hb5';
          have hK5 := hK.below hb5 hKp)
    | (go_at_call 16; refine (len_any _ hS5).mono ?_; rintro e w5 ⟨rfl, rfl⟩)
    | (go_at_call 17; refine (sumst_any _ hK5 hS5 (by decide)).mono ?_; rw [List.nil_append, ← hD.out]; rintro e w6 ⟨rfl, hb6'⟩;
          have hb6 := hb5.trans (hb6'.mono hb5.size);
          have hS6 := hS5.below hb6';
          have hb6a := hb6.alloc hb6.size (.cells #[.int .u8 97, .int .u8 98, .int .u8 99] 5 (3, 4));
          have hS6a := hS6.below ((Below.refl _ _).alloc (Nat.le_refl _) (.cells #[.int .u8 97, .int .u8 98, .int .u8 99] 5 (3, 4)));
          have hK6 := hK.below hb6a hKp;
          have hA6 := (rd_abc w6).mono (T := fun _ => True) (fun _ _ _ => trivial))
    | (go_at_call 11; refine (sum_any _ hK6 hA6 (by decide)).mono ?_; rw [← hD.out]; rintro e w7 ⟨rfl, hb7'⟩;
          have hb7 := hb6a.trans (hb7'.mono hb6a.size);
          have hS7 := hS6a.below hb7')
    | (go_at_call 18; refine (clone_any _ hS7).mono ?_; rintro e w8 ⟨p8, r8, rfl, hS8, hb8'⟩;
          have hb8 := hb7.trans (hb8'.mono hb7.size))
    | (go_at_call 16; refine (len_any _ hS8).mono ?_; rintro e w9 ⟨rfl, rfl⟩))
  go_ret
  exact ⟨rfl, hb8⟩
end Go.Proofs.YtacbbfmjjfbpoaaDoor

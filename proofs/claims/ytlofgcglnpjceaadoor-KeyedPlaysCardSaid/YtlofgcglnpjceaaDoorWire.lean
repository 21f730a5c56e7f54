/-
  The writer: Uint, Int, Text, Data.
-/
import Derived.Test.YtlofgcglnpjceaaDoorSt
import Derived.Test.YtlofgcglnpjceaaDoorStr
import Derived.Test.YtlofgcglnpjceaaDoorSum
import Derived.Test.YtlofgcglnpjceaaDoorOwn
import Derived.Test.YtlofgcglnpjceaaDoorWireP
import Derived.Handy
namespace Go.Proofs.YtlofgcglnpjceaaDoor
open Go.RowKit Go.Pl
/-- At G, no lower than B, lies a writer to which bs has been written. -/
def Wr (w : World) (B G : Nat) (bs : List UInt8) : Prop :=
  B ≤ G ∧ ∃ v, Blk w G 51 #[v] ∧ w.ownsRow B 5 1 v bs.length (bs.map u8v)
theorem Wr.up {w w' : World} {B G : Nat} {bs : List UInt8} (h : Wr w B G bs) (hb : Below w.heap.size w w') : Wr w' B G bs := by
  obtain ⟨h0, v, h1, h2⟩ := h
  exact ⟨h0, v, h1.below hb h1.lt, own_upd h2 hb⟩
set_option maxRecDepth 100000 in
theorem wuint_any {B G : Nat} {bs : List UInt8} (n : BitVec 64) (w : World) (hW : Wr w B G bs) (hl : bs.length ≤ 1000000000) :
    Calls Tryd.prog 40 #[.pointer (some ⟨G, 0, none⟩), .int .u64 (n64 n)] w fun e w' => e = .returned undef ∧ Wr w' B G (bs ++ Wire.uint n) ∧ Below B w w' := by
  have hBs : B ≤ w.heap.size := by obtain ⟨h0, v, h1, _⟩ := hW; have := h1.lt; omega
  go_enter Tryd.func40, Tryd.ntmps40
  go_wp2_with fail
  go_loopw [1] (fun t wr => ∃ k m pre, t = .int .u64 (n64 m) ∧ Wire.uint n = pre ++ Wire.uintF (k + 1) m ∧ pre.length + k ≤ 9 ∧ m.toNat < 128 ^ (k + 1) ∧ Wr wr B G (bs ++ pre) ∧ Below B w wr) (fun t _ => (intOf t).toNat)
  case atStart => exact ⟨9, n, [], rfl, by simp [Wire.uint], by simp, Nat.lt_of_lt_of_le n.isLt (by decide), by simpa using hW, Below.refl _ _⟩
  case round =>
    obtain ⟨k, m, pre, rfl, hu, hpl, hm, hWr, hbr⟩ := hrel
    obtain ⟨hBG, v, hblk, hown⟩ := hWr
    obtain ⟨R, cr, rfl, -, -⟩ := own_slice hown
    have hBr : B ≤ wr.heap.size := by have := hblk.lt; omega
    have hd := (hblk.cell 0).trans rfl
    have hfz := hblk.frozen 0
    have hBG' := Lib.hid hBG
    have hlo : ∀ x : UInt8, (bs ++ pre).length + [x].length ≤ 140737488355328 := by intro x; simp; omega
    obtain ⟨O, hO'⟩ : ∃ O, bs ++ pre = O := ⟨_, rfl⟩
    rw [hO'] at hown hlo hblk
    have hne := Lib.hid (own_blk_ne hown hblk (by decide))
    have hO := Lib.hid hO'
    have hlo := Lib.hid hlo
    rw [hO'] at hd
    clear hO'
    by_cases hlt : m.toNat < 128
    · have hge : ¬ (128 : Int) ≤ n64 m := by unfold n64; omega
      have hx : Hid (lo8 m = UInt8.ofNat m.toNat) := lo8_eq m
      have hu' : Hid (Wire.uint n = pre ++ [UInt8.ofNat m.toNat]) := by show _ = _; rw [hu, Wire.uintF_lt hlt]
      obtain ⟨x, hx'⟩ : ∃ x, lo8 m = x := ⟨_, rfl⟩
      have hx'' := Lib.hid hx'
      have o1 := own_alc hown (.cells #[.int .u8 (x.toNat : Int)] 5)
      have b1 := bytes_alloc wr 5 [x] #[.int .u8 (x.toNat : Int)] rfl (by simp [maxLen])
      have k1 := hblk.alloc (.cells #[.int .u8 (x.toNat : Int)] 5)
      have e1 := hbr.alloc hBr (.cells #[.int .u8 (x.toNat : Int)] 5)
      obtain ⟨N, hN⟩ : ∃ N, (O ++ [x]).length = N := ⟨_, rfl⟩
      have hN' := Lib.hid hN
      have hk1 := Lib.hid k1
      have hown' := Lib.hid hown
      clear hu hlt hm hblk hown k1
      go_wp2_with (first
        | ((with_reducible refine wpl_append_sl _ rfl (.tmp 24) (.tmp 27) 22 rfl B 5 ?_ ?_ _ ?_ _ o1 _ _ ?_ [x] b1 (hlo.out x) (Nat.le_trans hBs e1.size) N hN'.out ?_); rfl; kernel_rfl; rfl; rfl; intro A5 c5 w5 ho5 hg5 hb5;
            have k5 := hk1.out.grown hg5 (fun e => hne.out e.symm);
            have hz5 := k5.frozen 0;
            have d5 := (k5.cell 0).trans rfl;
            have e5 := Lib.hid (e1.grown hg5 (Nat.le_trans hBs e1.size) (fun k hk => own_base hown'.out hk));
            have hne5 := Lib.hid (own_blk_ne ho5 k5 (by decide));
            have ho5' := Lib.hid ho5;
            have k5' := Lib.hid k5;
            clear hg5 ho5 hb5 o1 b1 e1 hN hfz hd hlo hBr hBG hpl hx' k5))
      go_returns
      have h2 : Wire.uint n = pre ++ [x] := by rw [hu'.out, ← hx.out, hx''.out]
      refine ⟨rfl, ⟨hBG'.out, _, k5'.out.set_ 0 _, ?_⟩, e5.out.setCell hBG'.out _⟩
      have hN2 : N = (bs ++ Wire.uint n).length := by rw [← hN'.out, ← hO.out, h2, List.append_assoc]
      have e2 : O ++ [x] = bs ++ Wire.uint n := by rw [← hO.out, h2, List.append_assoc]
      rw [← hN2, ← e2]
      exact own_set ho5'.out hne5.out
    · have hge : (128 : Int) ≤ n64 m := by unfold n64; omega
      obtain ⟨j, rfl⟩ : ∃ j, k = j + 1 := by
        cases k with
        | zero => simp at hm; omega
        | succ j => exact ⟨j, rfl⟩
      have hx : Hid (lo8 m ||| 128 = UInt8.ofNat (m.toNat % 128 + 128)) := lo8_or m
      have hu' : Hid (Wire.uint n = pre ++ (UInt8.ofNat (m.toNat % 128 + 128) :: Wire.uintF (j + 1) (m >>> 7))) := by show _ = _; rw [hu, Wire.uintF_ge hlt]
      have hm' : Hid ((m >>> 7).toNat < 128 ^ (j + 1)) := by show _ < _; rw [Wire.shr7]; have : 128 ^ (j + 1 + 1) = 128 ^ (j + 1) * 128 := Nat.pow_succ ..; omega
      have hme : Hid ((m >>> 7).toNat < m.toNat) := by show _ < _; rw [Wire.shr7]; omega
      have hj := Lib.hid hpl
      obtain ⟨x, hx'⟩ : ∃ x, lo8 m ||| 128 = x := ⟨_, rfl⟩
      have hx'' := Lib.hid hx'
      have o1 := own_alc hown (.cells #[.int .u8 (x.toNat : Int)] 5)
      have b1 := bytes_alloc wr 5 [x] #[.int .u8 (x.toNat : Int)] rfl (by simp [maxLen])
      have k1 := hblk.alloc (.cells #[.int .u8 (x.toNat : Int)] 5)
      have e1 := hbr.alloc hBr (.cells #[.int .u8 (x.toNat : Int)] 5)
      obtain ⟨N, hN⟩ : ∃ N, (O ++ [x]).length = N := ⟨_, rfl⟩
      have hN' := Lib.hid hN
      have hk1 := Lib.hid k1
      have hown' := Lib.hid hown
      clear hu hlt hm hblk hown k1
      go_wp2_with (first
        | ((with_reducible refine wpl_append_sl _ rfl (.tmp 12) (.tmp 16) 22 rfl B 5 ?_ ?_ _ ?_ _ o1 _ _ ?_ [x] b1 (hlo.out x) (Nat.le_trans hBs e1.size) N hN'.out ?_); rfl; kernel_rfl; rfl; rfl; intro A5 c5 w5 ho5 hg5 hb5;
            have k5 := hk1.out.grown hg5 (fun e => hne.out e.symm);
            have hz5 := k5.frozen 0;
            have d5 := (k5.cell 0).trans rfl;
            have e5 := Lib.hid (e1.grown hg5 (Nat.le_trans hBs e1.size) (fun k hk => own_base hown'.out hk));
            have hne5 := Lib.hid (own_blk_ne ho5 k5 (by decide));
            have ho5' := Lib.hid ho5;
            have k5' := Lib.hid k5;
            clear hg5 ho5 hb5 o1 b1 e1 hN hfz hd hlo hBr hBG hpl hx' k5))
      go_roundw
      case rel =>
        have h2 : Wire.uint n = pre ++ [x] ++ Wire.uintF (j + 1) (m >>> 7) := by rw [hu'.out, ← hx.out, hx''.out]; simp
        refine ⟨j, m >>> 7, pre ++ [x], rfl, h2, ?_, hm'.out, ⟨hBG'.out, _, k5'.out.set_ 0 _, ?_⟩, e5.out.setCell hBG'.out _⟩
        · have := hj.out; simp; omega
        · have hN2 : N = (bs ++ (pre ++ [x])).length := by rw [← hN'.out, ← hO.out, List.append_assoc]
          have e2 : O ++ [x] = bs ++ (pre ++ [x]) := by rw [← hO.out, List.append_assoc]
          rw [← hN2, ← e2]
          exact own_set ho5'.out hne5.out
      case measure => simp [intOf, n64]; exact hme.out
theorem wint_any {B G : Nat} {bs : List UInt8} (z : Int) (h0 : -9223372036854775808 ≤ z) (h1 : z ≤ 9223372036854775807) (w : World) (hW : Wr w B G bs) (hl : bs.length ≤ 1000000000) :
    Calls Tryd.prog 30 #[.pointer (some ⟨G, 0, none⟩), .int .i64 z] w fun e w' => e = .returned undef ∧ Wr w' B G (bs ++ Wire.int z) ∧ Below B w w' := by
  have hz := Lib.hid (zig_word z h0 h1)
  go_enter Tryd.func30, Tryd.ntmps30
  go_wp2_with fail
  rw [show BitVec.ofInt 64 z <<< 1 ^^^ BitVec.ofInt 64 (z / 9223372036854775808) = Wire.zig z from hz.out]
  refine (wuint_any (Wire.zig z) _ hW hl).mono ?_
  rintro e w1 ⟨rfl, hW1, hb1⟩
  go_wp2_with fail
  go_returns
  exact ⟨rfl, hW1, hb1⟩
theorem wtext_any {B G : Nat} {bs : List UInt8} (cs : List UInt8) (w : World) (hW : Wr w B G bs) (hl : bs.length + cs.length ≤ 1000000000) :
    Calls Tryd.prog 29 #[.pointer (some ⟨G, 0, none⟩), .string ⟨cs.toArray⟩] w fun e w' => e = .returned undef ∧ Wr w' B G (bs ++ Wire.uint (BitVec.ofNat 64 cs.length) ++ cs) ∧ Below B w w' := by
  have hcs : (ByteArray.mk cs.toArray).size = cs.length := rfl
  go_enter Tryd.func29, Tryd.ntmps29
  go_wp2_with fail
  refine (wuint_any _ _ hW (by omega)).mono ?_
  rintro e w1 ⟨rfl, hW1, hb1⟩
  obtain ⟨hBG, v, hblk, hown⟩ := hW1
  obtain ⟨R, cr, rfl, -, -⟩ := own_slice hown
  have hl10 := Wire.length_uint (BitVec.ofNat 64 cs.length)
  have hlo : (bs ++ Wire.uint (BitVec.ofNat 64 cs.length)).length + cs.length ≤ 140737488355328 := by simp; omega
  obtain ⟨O, hO'⟩ : ∃ O, bs ++ Wire.uint (BitVec.ofNat 64 cs.length) = O := ⟨_, rfl⟩
  rw [hO'] at hown hlo hblk
  have hO := Lib.hid hO'
  have hd : w1.cell? ⟨G, 0, none⟩ = some (.slice R O.length cr) := (hblk.cell 0).trans rfl
  have hne := Lib.hid (own_blk_ne hown hblk (by decide))
  have hB1 : B ≤ w1.heap.size := by have := hblk.lt; omega
  obtain ⟨N, hN⟩ : ∃ N, (O ++ cs).length = N := ⟨_, rfl⟩
  have hN' := Lib.hid hN
  have hlo := Lib.hid hlo
  have hBG' := Lib.hid hBG
  have hown' := Lib.hid hown
  have hk1 := Lib.hid hblk
  clear hO' hblk hN hcs hl10
  go_wp2_with (first
    | ((with_reducible refine wpl_append_str rfl (.tmp 13) (.tmp 14) 22 9 rfl B 5 ?_ ?_ ?_ _ ?_ _ hown cs ?_ hlo.out hB1 N hN'.out ?_); rfl; rfl; kernel_rfl; rfl; rfl; intro A5 c5 w5 ho5 hg5;
        have k5 := hk1.out.grown hg5 (fun e => hne.out e.symm);
        have hz5 := k5.frozen 0;
        have d5 : w5.cell? ⟨G, 0, none⟩ = some (.slice R O.length cr) := (k5.cell 0).trans rfl;
        have e5 := Lib.hid (hb1.grown hg5 hB1 (fun k hk => own_base hown'.out hk));
        have hne5 := Lib.hid (own_blk_ne ho5 k5 (by decide));
        have ho5' := Lib.hid ho5;
        have k5' := Lib.hid k5;
        clear hg5 ho5 hd k5))
  go_returns
  refine ⟨rfl, ⟨hBG'.out, _, k5'.out.set_ 0 _, ?_⟩, e5.out.setCell hBG'.out _⟩
  rw [show bs ++ Wire.uint (BitVec.ofNat 64 cs.length) = O from hO.out, hN'.out]
  exact own_set ho5'.out hne5.out
theorem wdata_any {B G : Nat} {bs : List UInt8} (w : World) (hW : Wr w B G bs) (hl : bs.length ≤ 1000000000) :
    Calls Tryd.prog 31 #[.pointer (some ⟨G, 0, none⟩)] w fun e w' =>
      ∃ A c, e = .returned (.slice A bs.length c) ∧ w'.ownsRow w.heap.size 5 1 (.slice A bs.length c) bs.length (bs.map u8v) ∧ Below w.heap.size w w' := by
  obtain ⟨hBG, v, hblk, hown⟩ := hW
  obtain ⟨R, cr, rfl, hrd, -⟩ := own_slice hown
  have hd : (w.alloc (.cells #[] 5)).cell? ⟨G, 0, none⟩ = some (.slice R bs.length cr) := ((hblk.alloc _).cell 0).trans rfl
  have o1 := own_alloc w (Nat.le_refl _) 5 [] #[] rfl rfl (by decide)
  have f1 : Fr (fun _ => False) w (w.alloc (.cells #[] 5)) := (Fr.refl (fun _ => False) w).alloc _
  have b1 : Bytes (w.alloc (.cells #[] 5)) (w.alloc (.cells #[] 5)).heap.size (.slice R bs.length cr) bs := (hrd.fr f1 (fun _ _ h => h)).all
  clear hrd hown
  go_enter Tryd.func31, Tryd.ntmps31
  go_wp2_with (first
    | ((with_reducible refine wpl_append_sl _ rfl (.tmp 3) (.tmp 7) 22 rfl w.heap.size 5 ?_ ?_ _ ?_ [] o1 _ _ ?_ bs b1 (by simp; omega) f1.size bs.length rfl ?_); rfl; kernel_rfl; rfl; rfl; intro R2 c2 w2 ho2 hg2 hb2;
          have f2 := f1.grown hg2 (fun g h => .inr (by have : w.heap.size = g := Option.some.inj h; omega))))
  go_ret
  exact ⟨R2, c2, rfl, ho2, f2.below (fun _ h => h.elim) (Nat.le_refl _)⟩
end Go.Proofs.YtlofgcglnpjceaaDoor

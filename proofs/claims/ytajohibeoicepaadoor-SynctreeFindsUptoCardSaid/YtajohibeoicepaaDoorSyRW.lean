/-
  The reference's encoding: Uint, Int, Text.
-/
import Derived.Test.YtajohibeoicepaaDoorSyWr
namespace Go.Proofs.YtajohibeoicepaaDoor
open Go.RowKit Go.Pl
/-- A slice of bytes of the call's own is handed back. -/
def Gave (w : World) (bs : List UInt8) (e : Ending) (w' : World) : Prop :=
  ∃ A n c, n = bs.length ∧ e = .returned (.slice A n c) ∧ w'.ownsRow w.heap.size 5 1 (.slice A n c) n (bs.map u8v) ∧ Below w.heap.size w w'
theorem tdiv128 (m : BitVec 64) : IntKind.u64.wrap ((n64 m).tdiv 128) = n64 (m >>> 7) := by
  have h0 := n64_nonneg m
  rw [Int.tdiv_eq_ediv_of_nonneg h0, IntKind.wrap_u64, ← n64_shr m 7]
  have h1 := n64_lt m
  show n64 m / 128 % _ = n64 m / 128
  omega
set_option maxRecDepth 100000 in
theorem refuint_any {A : Option Addr} {l c : Nat} {bs : List UInt8} (n : BitVec 64) (w : World) (hA : Rd w (fun _ => True) A l c bs) (hl : bs.length ≤ 1000000000) :
    Calls Tryd.prog 53 #[.slice A l c, .int .u64 (n64 n)] w fun e w' => Gave w (bs ++ Wire.uint n) e w' := by
  obtain rfl := hA.len
  have o1 := own_alloc w (Nat.le_refl _) 5 [] #[] rfl rfl (by decide)
  have f1 : Fr (fun _ => False) w (w.alloc (.cells #[] 5)) := (Fr.refl (fun _ => False) w).alloc _
  have b1 : Bytes (w.alloc (.cells #[] 5)) (w.alloc (.cells #[] 5)).heap.size (.slice A bs.length c) bs := (hA.fr f1 (fun _ _ h => h)).all
  clear hA
  go_enter Tryd.func53, Tryd.ntmps53
  go_wp2_with (first
    | ((with_reducible refine wpl_append_sl _ rfl (.tmp 6) (.tmp 7) 23 rfl w.heap.size 5 ?_ ?_ _ ?_ [] o1 _ _ ?_ bs b1 (by simp; omega) f1.size bs.length rfl ?_); rfl; kernel_rfl; rfl; rfl; intro R2 c2 w2 ho2 hg2 hb2;
          have f2 := f1.grown hg2 (fun g h => .inr (by have : w.heap.size = g := Option.some.inj h; omega))))
  go_loopw [1, 5] (fun t t5 wr => ∃ k m pre R cr, t = .int .u64 (n64 m) ∧ t5 = .slice R (bs ++ pre).length cr ∧ Wire.uint n = pre ++ Wire.uintF (k + 1) m ∧ pre.length + k ≤ 9 ∧ m.toNat < 128 ^ (k + 1) ∧ wr.ownsRow w.heap.size 5 1 (.slice R (bs ++ pre).length cr) (bs ++ pre).length ((bs ++ pre).map u8v) ∧ Fr (fun _ => False) w wr) (fun t _ _ => (intOf t).toNat)
  case atStart => exact ⟨9, n, [], R2, c2, rfl, by simp, by simp [Wire.uint], by simp, Nat.lt_of_lt_of_le n.isLt (by decide), by simpa using ho2, f2⟩
  case round =>
    obtain ⟨k, m, pre, R, cr, rfl, rfl, hu, hpl, hm, hown, hfr⟩ := hrel
    have hlo : ∀ x : UInt8, (bs ++ pre).length + [x].length ≤ 140737488355328 := by intro x; simp; omega
    obtain ⟨O, hO'⟩ : ∃ O, bs ++ pre = O := ⟨_, rfl⟩
    rw [hO'] at hown hlo ⊢
    have hO := Lib.hid hO'
    have hlo := Lib.hid hlo
    clear hO'
    by_cases hlt : m.toNat < 128
    · have hge : ¬ (128 : Int) ≤ n64 m := by unfold n64; omega
      have hx : Hid (lo8 m = UInt8.ofNat m.toNat) := lo8_eq m
      have hu' : Hid (Wire.uint n = pre ++ [UInt8.ofNat m.toNat]) := by show _ = _; rw [hu, Wire.uintF_lt hlt]
      obtain ⟨x, hx'⟩ : ∃ x, lo8 m = x := ⟨_, rfl⟩
      have hx'' := Lib.hid hx'
      have o3 := own_alc hown (.cells #[.int .u8 (x.toNat : Int)] 5)
      have b3 := bytes_alloc wr 5 [x] #[.int .u8 (x.toNat : Int)] rfl (by simp [maxLen])
      have e3 := hfr.alloc (.cells #[.int .u8 (x.toNat : Int)] 5)
      obtain ⟨N, hN⟩ : ∃ N, (O ++ [x]).length = N := ⟨_, rfl⟩
      have hN' := Lib.hid hN
      have hown' := Lib.hid hown
      clear hu hlt hm hown hN
      go_wp2_with (first
        | ((with_reducible refine wpl_append_sl _ rfl (.tmp 20) (.tmp 23) 23 rfl w.heap.size 5 ?_ ?_ _ ?_ _ o3 _ _ ?_ [x] b3 (hlo.out x) e3.size N hN'.out ?_); rfl; kernel_rfl; rfl; rfl; intro A5 c5 w5 ho5 hg5 hb5;
            have e5 := Lib.hid (e3.grown hg5 (fun k hk => .inr (own_base hown'.out hk)));
            have ho5' := Lib.hid ho5;
            clear hg5 ho5 hb5 o3 b3 e3 hlo hpl hx'))
      go_ret
      have h2 : Wire.uint n = pre ++ [x] := by rw [hu'.out, ← hx.out, hx''.out]
      have e2 : O ++ [x] = bs ++ Wire.uint n := by rw [← hO.out, h2, List.append_assoc]
      have hN2 : N = (bs ++ Wire.uint n).length := by rw [← hN'.out, e2]
      exact ⟨A5, N, c5, hN2, rfl, by rw [← e2]; exact ho5'.out, e5.out.below (fun _ h => h.elim) (Nat.le_refl _)⟩
    · have hge : (128 : Int) ≤ n64 m := by unfold n64; omega
      obtain ⟨j, rfl⟩ : ∃ j, k = j + 1 := by
        cases k with
        | zero => simp at hm; omega
        | succ j => exact ⟨j, rfl⟩
      have hx : Hid (lo8 (m % 128#64) + 128 = UInt8.ofNat (m.toNat % 128 + 128)) := lo8_add m
      have hu' : Hid (Wire.uint n = pre ++ (UInt8.ofNat (m.toNat % 128 + 128) :: Wire.uintF (j + 1) (m >>> 7))) := by show _ = _; rw [hu, Wire.uintF_ge hlt]
      have hm' : Hid ((m >>> 7).toNat < 128 ^ (j + 1)) := by show _ < _; rw [Wire.shr7]; have : 128 ^ (j + 1 + 1) = 128 ^ (j + 1) * 128 := Nat.pow_succ ..; omega
      have hme : Hid ((m >>> 7).toNat < m.toNat) := by show _ < _; rw [Wire.shr7]; omega
      have hj := Lib.hid hpl
      obtain ⟨x, hx'⟩ : ∃ x, lo8 (m % 128#64) + 128 = x := ⟨_, rfl⟩
      have hx'' := Lib.hid hx'
      have hxv : (x.toNat : Int) = n64 m % 128 + 128 := by
        rw [← hx', hx.out, UInt8.toNat_ofNat']
        unfold n64; omega
      have o3 := own_alc hown (.cells #[.int .u8 (n64 m % 128 + 128)] 5)
      have b3 := bytes_alloc wr 5 [x] #[.int .u8 (n64 m % 128 + 128)] (by rw [← hxv]; rfl) (by simp [maxLen])
      have e3 := hfr.alloc (.cells #[.int .u8 (n64 m % 128 + 128)] 5)
      clear hxv
      obtain ⟨N, hN⟩ : ∃ N, (O ++ [x]).length = N := ⟨_, rfl⟩
      have hN' := Lib.hid hN
      have hown' := Lib.hid hown
      clear hu hlt hm hown hN
      go_wp2_with (first
        | ((with_reducible refine wpl_append_sl _ rfl (.tmp 11) (.tmp 16) 23 rfl w.heap.size 5 ?_ ?_ _ ?_ _ o3 _ _ ?_ [x] b3 (hlo.out x) e3.size N hN'.out ?_); rfl; kernel_rfl; rfl; rfl; intro A5 c5 w5 ho5 hg5 hb5;
            have e5 := Lib.hid (e3.grown hg5 (fun k hk => .inr (own_base hown'.out hk)));
            have ho5' := Lib.hid ho5;
            clear hg5 ho5 hb5 o3 b3 e3 hlo hpl hx'))
      go_roundw
      case rel =>
        have h2 : Wire.uint n = pre ++ [x] ++ Wire.uintF (j + 1) (m >>> 7) := by rw [hu'.out, ← hx.out, hx''.out]; simp
        have e2 : O ++ [x] = bs ++ (pre ++ [x]) := by rw [← hO.out, List.append_assoc]
        have hN2 : N = (bs ++ (pre ++ [x])).length := by rw [← hN'.out, e2]
        refine ⟨j, m >>> 7, pre ++ [x], A5, c5, congrArg _ (tdiv128 m), by rw [hN2], h2, ?_, hm'.out, ?_, e5.out⟩
        · have := hj.out; simp; omega
        · rw [← hN2, ← e2]
          exact ho5'.out
      case measure =>
        show (IntKind.u64.wrap ((n64 m).tdiv 128)).toNat < (n64 m).toNat
        rw [tdiv128]; have := hme.out; unfold n64; omega
theorem zig_pos (z : Int) (h : 0 ≤ z) : IntKind.u64.wrap (2 * n64 (BitVec.ofInt 64 z)) = n64 (Wire.zig z) := by
  unfold Wire.zig n64
  rw [if_pos h, IntKind.wrap_u64, BitVec.toNat_ofInt, BitVec.toNat_ofInt]
  omega
theorem zig_neg (z : Int) (h : ¬ 0 ≤ z) : IntKind.u64.wrap (IntKind.u64.wrap (2 * n64 (BitVec.ofInt 64 (-(z + 1)))) + 1) = n64 (Wire.zig z) := by
  unfold Wire.zig n64
  rw [if_neg h, IntKind.wrap_u64, IntKind.wrap_u64, BitVec.toNat_ofInt, BitVec.toNat_ofInt]
  omega
theorem refint_any {A : Option Addr} {l c : Nat} {bs : List UInt8} (z : Int) (h0 : -9223372036854775808 ≤ z) (h1 : z ≤ 9223372036854775807) (w : World) (hA : Rd w (fun _ => True) A l c bs) (hl : bs.length ≤ 1000000000) :
    Calls Tryd.prog 63 #[.slice A l c, .int .i64 z] w fun e w' => Gave w (bs ++ Wire.int z) e w' := by
  by_cases hz : 0 ≤ z
  · have hw := Lib.hid (zig_pos z hz)
    go_enter Tryd.func63, Tryd.ntmps63
    go_wp2_with fail
    rw [hw.out]
    refine (refuint_any _ _ hA hl).mono ?_
    rintro e w1 ⟨A1, n1, c1, hn1, rfl, hown, hb1⟩
    have hn1' := Lib.hid hn1
    clear hn1
    go_wp2_with fail
    go_ret
    exact ⟨A1, n1, c1, hn1'.out, rfl, hown, hb1⟩
  · have hw := Lib.hid (zig_neg z hz)
    go_enter Tryd.func63, Tryd.ntmps63
    go_wp2_with fail
    rw [hw.out]
    refine (refuint_any _ _ hA hl).mono ?_
    rintro e w1 ⟨A1, n1, c1, hn1, rfl, hown, hb1⟩
    have hn1' := Lib.hid hn1
    clear hn1
    go_wp2_with fail
    go_ret
    exact ⟨A1, n1, c1, hn1'.out, rfl, hown, hb1⟩
theorem reftext_any {A : Option Addr} {l c : Nat} {bs : List UInt8} (cs : List UInt8) (w : World) (hA : Rd w (fun _ => True) A l c bs) (hl : bs.length + cs.length ≤ 1000000000) :
    Calls Tryd.prog 64 #[.slice A l c, .string ⟨cs.toArray⟩] w fun e w' => Gave w (bs ++ Wire.uint (BitVec.ofNat 64 cs.length) ++ cs) e w' := by
  go_enter Tryd.func64, Tryd.ntmps64
  go_wp2_with fail
  refine (refuint_any _ _ hA (by omega)).mono ?_
  rintro e w1 ⟨A1, n1, c1, hn1, rfl, hown, hb1⟩
  have hl10 := Wire.length_uint (BitVec.ofNat 64 cs.length)
  have hlo : (bs ++ Wire.uint (BitVec.ofNat 64 cs.length)).length + cs.length ≤ 140737488355328 := by simp; omega
  obtain ⟨O, hO'⟩ : ∃ O, bs ++ Wire.uint (BitVec.ofNat 64 cs.length) = O := ⟨_, rfl⟩
  rw [hO'] at hown hlo hn1
  subst hn1
  have hO := Lib.hid hO'
  have hlo := Lib.hid hlo
  obtain ⟨N, hN⟩ : ∃ N, (O ++ cs).length = N := ⟨_, rfl⟩
  have hN' := Lib.hid hN
  have hown' := Lib.hid hown
  have hs := hb1.size
  clear hO' hN hl10
  go_wp2_with (first
    | ((with_reducible refine wpl_append_str rfl (.tmp 9) (.tmp 10) 23 9 rfl w.heap.size 5 ?_ ?_ ?_ _ ?_ _ hown cs ?_ hlo.out hs N hN'.out ?_); rfl; rfl; kernel_rfl; rfl; rfl; intro A5 c5 w5 ho5 hg5;
        have e5 := Lib.hid (hb1.grown hg5 hs (fun k hk => own_base hown'.out hk));
        have ho5' := Lib.hid ho5;
        clear hg5 ho5))
  go_ret
  have e2 : O ++ cs = bs ++ Wire.uint (BitVec.ofNat 64 cs.length) ++ cs := by rw [← hO.out]
  have hN2 : N = (bs ++ Wire.uint (BitVec.ofNat 64 cs.length) ++ cs).length := by rw [← hN'.out, e2]
  exact ⟨A5, N, c5, hN2, rfl, by rw [← e2]; exact ho5'.out, e5.out⟩
theorem refbytes_any {A B : Option Addr} {l c m d : Nat} {bs : List UInt8} (cs : List UInt8) (w : World) (hA : Rd w (fun _ => True) A l c bs) (hB : Rd w (fun _ => True) B m d cs) (hl : bs.length + cs.length ≤ 1000000000) :
    Calls Tryd.prog 38 #[.slice A l c, .slice B m d] w fun e w' => Gave w (bs ++ Wire.uint (BitVec.ofNat 64 cs.length) ++ cs) e w' := by
  obtain rfl := hB.len
  have hBd := Lib.hid hB
  go_enter Tryd.func38, Tryd.ntmps38
  go_wp2_with fail
  refine (refuint_any _ _ hA (by omega)).mono ?_
  rintro e w1 ⟨A1, n1, c1, hn1, rfl, hown, hb1⟩
  have hl10 := Wire.length_uint (BitVec.ofNat 64 cs.length)
  have hlo : (bs ++ Wire.uint (BitVec.ofNat 64 cs.length)).length + cs.length ≤ 140737488355328 := by simp; omega
  obtain ⟨O, hO'⟩ : ∃ O, bs ++ Wire.uint (BitVec.ofNat 64 cs.length) = O := ⟨_, rfl⟩
  rw [hO'] at hown hlo hn1
  subst hn1
  have hO := Lib.hid hO'
  have hlo := Lib.hid hlo
  obtain ⟨N, hN⟩ : ∃ N, (O ++ cs).length = N := ⟨_, rfl⟩
  have hN' := Lib.hid hN
  have hown' := Lib.hid hown
  have hs := hb1.size
  have hr1 := (hBd.out.fr (Fr.of_below (F := fun _ => False) hb1) (fun _ _ h => h)).all
  have hb1d := Lib.hid hb1
  clear hO' hN hl10 hA hB
  go_wp2_with (first
    | ((with_reducible refine wpl_append_sl _ rfl (.tmp 9) (.tmp 10) 23 rfl w.heap.size 5 ?_ ?_ _ ?_ _ hown _ _ ?_ cs hr1 hlo.out hs N hN'.out ?_); rfl; kernel_rfl; rfl; rfl; intro A5 c5 w5 ho5 hg5 _;
        have e5 := Lib.hid (hb1d.out.grown hg5 hs (fun k hk => own_base hown'.out hk));
        have ho5' := Lib.hid ho5;
        clear hg5 ho5))
  go_ret
  have e2 : O ++ cs = bs ++ Wire.uint (BitVec.ofNat 64 cs.length) ++ cs := by rw [← hO.out]
  have hN2 : N = (bs ++ Wire.uint (BitVec.ofNat 64 cs.length) ++ cs).length := by rw [← hN'.out, e2]
  exact ⟨A5, N, c5, hN2, rfl, by rw [← e2]; exact ho5'.out, e5.out⟩
end Go.Proofs.YtajohibeoicepaaDoor

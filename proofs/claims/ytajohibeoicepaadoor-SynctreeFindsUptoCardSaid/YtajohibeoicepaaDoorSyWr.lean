/-
  The writer: Uint, Int, Text, Bytes, Data; what it may write is a set of blocks.
-/
import Derived.Test.YtajohibeoicepaaDoorSt
import Derived.Test.YtajohibeoicepaaDoorStr
import Derived.Test.YtajohibeoicepaaDoorSum
import Derived.Test.YtajohibeoicepaaDoorOwn
import Derived.Test.YtajohibeoicepaaDoorSyAt
import Derived.Handy
namespace Go.Proofs.YtajohibeoicepaaDoor
open Go.RowKit Go.Pl
/-- At G lies a writer to which bs has been written; its blocks are some of K, and all new ones are. -/
def Wk (w : World) (K : Nat → Prop) (G : Nat) (bs : List UInt8) : Prop :=
  K G ∧ ∃ v, Blk w G 54 #[v] ∧ w.ownsRow 0 5 1 v bs.length (bs.map u8v) ∧ ∀ g, v.ownBlock = some g → K g
theorem Wk.fr {w w' : World} {K F : Nat → Prop} {G : Nat} {bs : List UInt8} (h : Wk w K G bs) (hf : Fr F w w') (hF : ∀ i, K i → ¬ F i) : Wk w' K G bs := by
  obtain ⟨h0, v, h1, h2, h3⟩ := h
  exact ⟨h0, v, h1.fr hf (hF _ h0), own_fr h2 hf (fun g hg => hF g (h3 g hg)), h3⟩
theorem Wk.mono {w : World} {K K' : Nat → Prop} {G : Nat} {bs : List UInt8} (h : Wk w K G bs) (hK : ∀ i, i < w.heap.size → K i → K' i) : Wk w K' G bs := by
  obtain ⟨h0, v, h1, h2, h3⟩ := h
  exact ⟨hK _ h1.lt h0, v, h1, h2, fun g hg => hK g (own_lt h2 g hg).2 (h3 g hg)⟩
theorem fr_low {B : Nat} {w w' : World} (h : Below B w w') : Fr (fun i => B ≤ i) w w' := ⟨h.os, h.tape, h.output, h.size, fun k _ hn => h.block k (by omega)⟩
theorem Fr.up {F : Nat → Prop} {w w' : World} (h : Fr F w w') (hF : ∀ i, F i → w.heap.size ≤ i) : Below w.heap.size w w' := h.below hF (Nat.le_refl _)
set_option maxRecDepth 100000 in
theorem wuint_k {K : Nat → Prop} {G : Nat} {bs : List UInt8} (n : BitVec 64) (w : World) (hK : ∀ i, w.heap.size ≤ i → K i) (hW : Wk w K G bs) (hl : bs.length ≤ 1000000000) :
    Calls Tryd.prog 48 #[.pointer (some ⟨G, 0, none⟩), .int .u64 (n64 n)] w fun e w' => e = .returned undef ∧ Wk w' K G (bs ++ Wire.uint n) ∧ Fr K w w' := by
  have hKd := Lib.hid hK
  go_enter Tryd.func48, Tryd.ntmps48
  go_wp2_with fail
  go_loopw [1] (fun t wr => ∃ k m pre, t = .int .u64 (n64 m) ∧ Wire.uint n = pre ++ Wire.uintF (k + 1) m ∧ pre.length + k ≤ 9 ∧ m.toNat < 128 ^ (k + 1) ∧ Wk wr K G (bs ++ pre) ∧ Fr K w wr) (fun t _ => (intOf t).toNat)
  case atStart => exact ⟨9, n, [], rfl, by simp [Wire.uint], by simp, Nat.lt_of_lt_of_le n.isLt (by decide), by simpa using hW, Fr.refl _ _⟩
  case round =>
    obtain ⟨k, m, pre, rfl, hu, hpl, hm, hWr, hbr⟩ := hrel
    obtain ⟨hBG, v, hblk, hown, hvK⟩ := hWr
    obtain ⟨R, cr, rfl, -, -⟩ := own_slice hown
    have hd := (hblk.cell 0).trans rfl
    have hfz := hblk.frozen 0
    have hBG' := Lib.hid hBG
    have hlo : ∀ x : UInt8, (bs ++ pre).length + [x].length ≤ 140737488355328 := by intro x; simp; omega
    obtain ⟨O, hO'⟩ : ∃ O, bs ++ pre = O := ⟨_, rfl⟩
    rw [hO'] at hown hlo hblk hvK
    have hvKd := Lib.hid hvK
    clear hvK
    have hne := Lib.hid (own_blk_ne hown hblk (by decide))
    have hO := Lib.hid hO'
    have hlo := Lib.hid hlo
    rw [hO'] at hd
    clear hO'
    by_cases hlt : m.toNat < 128
    · have hge : ¬ (128 : Int) ≤ n64 m := by unfold n64; omega
      have hx : Hid (lo8 m = UInt8.ofNat m.toNat) := lo8_eq m
      have hu' : Hid (Wire.uint n = pre ++ [UInt8.ofNat m.toNat]) := by show _ = _; rw [hu, Wire.uintF_lt hlt]
      obtain ⟨x, hx'⟩ : ∃ x, lo8 m = x := ⟨_, rfl⟩
      have hx'' := Lib.hid hx'
      have o1 := own_alc hown (.cells #[.int .u8 (x.toNat : Int)] 5)
      have b1 := bytes_alloc wr 5 [x] #[.int .u8 (x.toNat : Int)] rfl (by simp [maxLen])
      have k1 := hblk.alloc (.cells #[.int .u8 (x.toNat : Int)] 5)
      have e1 := hbr.alloc (.cells #[.int .u8 (x.toNat : Int)] 5)
      obtain ⟨N, hN⟩ : ∃ N, (O ++ [x]).length = N := ⟨_, rfl⟩
      have hN' := Lib.hid hN
      have hk1 := Lib.hid k1
      have hown' := Lib.hid hown
      clear hu hlt hm hblk hown k1
      go_wp2_with (first
        | ((with_reducible refine wpl_append_sl _ rfl (.tmp 24) (.tmp 27) 23 rfl 0 5 ?_ ?_ _ ?_ _ o1 _ _ ?_ [x] b1 (hlo.out x) (Nat.zero_le _) N hN'.out ?_); rfl; kernel_rfl; rfl; rfl; intro A5 c5 w5 ho5 hg5 hb5;
            have k5 := hk1.out.grown hg5 (fun e => hne.out e.symm);
            have hz5 := k5.frozen 0;
            have d5 := (k5.cell 0).trans rfl;
            have e5 := Lib.hid (e1.grown hg5 (fun k hk => .inl (hvKd.out k hk)));
            have hv5 : Hid (∀ g, (Value.slice A5 N c5).ownBlock = some g → K g) := (fun g hg => by rcases hb5 with h | h; exact hvKd.out g (h.symm.trans hg); exact hKd.out g (by have := e1.size; rw [h] at hg; have := Option.some.inj hg; omega));
            have hne5 := Lib.hid (own_blk_ne ho5 k5 (by decide));
            have ho5' := Lib.hid ho5;
            have k5' := Lib.hid k5;
            clear hg5 ho5 hb5 o1 b1 e1 hN hfz hd hlo hBG hpl hx' k5))
      go_returns
      have h2 : Wire.uint n = pre ++ [x] := by rw [hu'.out, ← hx.out, hx''.out]
      refine ⟨rfl, ⟨hBG'.out, _, k5'.out.set_ 0 _, ?_, hv5.out⟩, e5.out.setCell (.inl hBG'.out) _⟩
      have hN2 : N = (bs ++ Wire.uint n).length := by rw [← hN'.out, ← hO.out, h2, List.append_assoc]
      have e2 : O ++ [x] = bs ++ Wire.uint n := by rw [← hO.out, h2, List.append_assoc]
      rw [← hN2, ← e2]
      exact own_set ho5'.out hne5.out
    · have hge : (128 : Int) ≤ n64 m := by unfold n64; omega
      obtain ⟨j, rfl⟩ : ∃ j, k = j + 1 := by
        cases k with
        | zero => simp at hm; omega
        | succ j => exact ⟨j, rfl⟩
      have hx : Hid (lo8 m ||| 128 = UInt8.ofNat (m.toNat % 128 + 128)) := lo8_or m
      have hu' : Hid (Wire.uint n = pre ++ (UInt8.ofNat (m.toNat % 128 + 128) :: Wire.uintF (j + 1) (m >>> 7))) := by show _ = _; rw [hu, Wire.uintF_ge hlt]
      have hm' : Hid ((m >>> 7).toNat < 128 ^ (j + 1)) := by show _ < _; rw [Wire.shr7]; have : 128 ^ (j + 1 + 1) = 128 ^ (j + 1) * 128 := Nat.pow_succ ..; omega
      have hme : Hid ((m >>> 7).toNat < m.toNat) := by show _ < _; rw [Wire.shr7]; omega
      have hj := Lib.hid hpl
      obtain ⟨x, hx'⟩ : ∃ x, lo8 m ||| 128 = x := ⟨_, rfl⟩
      have hx'' := Lib.hid hx'
      have o1 := own_alc hown (.cells #[.int .u8 (x.toNat : Int)] 5)
      have b1 := bytes_alloc wr 5 [x] #[.int .u8 (x.toNat : Int)] rfl (by simp [maxLen])
      have k1 := hblk.alloc (.cells #[.int .u8 (x.toNat : Int)] 5)
      have e1 := hbr.alloc (.cells #[.int .u8 (x.toNat : Int)] 5)
      obtain ⟨N, hN⟩ : ∃ N, (O ++ [x]).length = N := ⟨_, rfl⟩
      have hN' := Lib.hid hN
      have hk1 := Lib.hid k1
      have hown' := Lib.hid hown
      clear hu hlt hm hblk hown k1
      go_wp2_with (first
        | ((with_reducible refine wpl_append_sl _ rfl (.tmp 12) (.tmp 16) 23 rfl 0 5 ?_ ?_ _ ?_ _ o1 _ _ ?_ [x] b1 (hlo.out x) (Nat.zero_le _) N hN'.out ?_); rfl; kernel_rfl; rfl; rfl; intro A5 c5 w5 ho5 hg5 hb5;
            have k5 := hk1.out.grown hg5 (fun e => hne.out e.symm);
            have hz5 := k5.frozen 0;
            have d5 := (k5.cell 0).trans rfl;
            have e5 := Lib.hid (e1.grown hg5 (fun k hk => .inl (hvKd.out k hk)));
            have hv5 : Hid (∀ g, (Value.slice A5 N c5).ownBlock = some g → K g) := (fun g hg => by rcases hb5 with h | h; exact hvKd.out g (h.symm.trans hg); exact hKd.out g (by have := e1.size; rw [h] at hg; have := Option.some.inj hg; omega));
            have hne5 := Lib.hid (own_blk_ne ho5 k5 (by decide));
            have ho5' := Lib.hid ho5;
            have k5' := Lib.hid k5;
            clear hg5 ho5 hb5 o1 b1 e1 hN hfz hd hlo hBG hpl hx' k5))
      go_roundw
      case rel =>
        have h2 : Wire.uint n = pre ++ [x] ++ Wire.uintF (j + 1) (m >>> 7) := by rw [hu'.out, ← hx.out, hx''.out]; simp
        refine ⟨j, m >>> 7, pre ++ [x], rfl, h2, ?_, hm'.out, ⟨hBG'.out, _, k5'.out.set_ 0 _, ?_, hv5.out⟩, e5.out.setCell (.inl hBG'.out) _⟩
        · have := hj.out; simp; omega
        · have hN2 : N = (bs ++ (pre ++ [x])).length := by rw [← hN'.out, ← hO.out, List.append_assoc]
          have e2 : O ++ [x] = bs ++ (pre ++ [x]) := by rw [← hO.out, List.append_assoc]
          rw [← hN2, ← e2]
          exact own_set ho5'.out hne5.out
      case measure => simp [intOf, n64]; exact hme.out
theorem wint_k {K : Nat → Prop} {G : Nat} {bs : List UInt8} (z : Sy.I64) (w : World) (hK : ∀ i, w.heap.size ≤ i → K i) (hW : Wk w K G bs) (hl : bs.length ≤ 1000000000) :
    Calls Tryd.prog 59 #[.pointer (some ⟨G, 0, none⟩), .int .i64 z] w fun e w' => e = .returned undef ∧ Wk w' K G (bs ++ Wire.int z) ∧ Fr K w w' := by
  obtain ⟨z, h0, h1⟩ := z
  have hz := Lib.hid (zig_word z h0 h1)
  have hKd := Lib.hid hK
  clear hK
  dsimp only
  go_enter Tryd.func59, Tryd.ntmps59
  go_wp2_with fail
  rw [show BitVec.ofInt 64 z <<< 1 ^^^ BitVec.ofInt 64 (z / 9223372036854775808) = Wire.zig z from hz.out]
  refine (wuint_k (Wire.zig z) _ hKd.out hW hl).mono ?_
  rintro e w1 ⟨rfl, hW1, hb1⟩
  go_wp2_with fail
  go_returns
  exact ⟨rfl, hW1, hb1⟩
theorem own_rise {w : World} {base B : Nat} {e : TypeId} {size n : Nat} {v : Value} {xs : List Value} (h : w.ownsRow base e size v n xs) (hB : ∀ g, v.ownBlock = some g → B ≤ g) : w.ownsRow B e size v n xs := by
  obtain ⟨h1, h2⟩ := h
  rcases h2 with h2 | ⟨g, cap, cur, rfl, hb, h3⟩
  · exact ⟨h1, .inl h2⟩
  · exact ⟨h1, .inr ⟨g, cap, cur, rfl, hB g rfl, h3⟩⟩
/-- The row that an append leaves lies in K. -/
theorem old_row {K : Nat → Prop} {B N : Nat} {e : TypeId} {w w1 w5 : World} {v u : Value} {xs : List Value} (hb : Fr K w w1) (hK : ∀ i, w.heap.size ≤ i → K i) (hN : ∀ i, B ≤ i → ¬ K i → ∀ cs, w.heap[i]? ≠ some (.cells cs e (0, 0)))
    (hv : ∀ g, v.ownBlock = some g → K g) (hg : w1.grownBy w5 v.ownBlock) (ho : w5.ownsRow B e 1 u N xs) {g : Nat} (hu : u.ownBlock = some g) : K g := by
  apply Classical.byContradiction
  intro hn
  have hlt : g < w.heap.size := by
    apply Classical.byContradiction
    intro h
    exact hn (hK g (by omega))
  rcases ho.2 with ⟨rfl, -⟩ | ⟨g', cap, cur, rfl, hB, hc, -⟩
  · cases hu
  · obtain rfl : g' = g := Option.some.inj hu
    have h1 := hg.block g' (Nat.lt_of_lt_of_le hlt hb.size) (fun e => hn (hv g' e.symm))
    have h2 := hb.block g' hlt hn
    exact hN g' hB hn cur ((h2.symm.trans h1.symm).trans hc)
set_option maxRecDepth 100000 in
theorem wtext_k {K : Nat → Prop} {B G : Nat} {bs : List UInt8} (cs : List UInt8) (w : World) (hK : ∀ i, w.heap.size ≤ i → K i) (hBw : B ≤ w.heap.size) (hKB : ∀ i, K i → B ≤ i) (hN : ∀ i, B ≤ i → ¬ K i → ∀ cs, w.heap[i]? ≠ some (.cells cs 5 (0, 0))) (hW : Wk w K G bs) (hl : bs.length + cs.length ≤ 1000000000) :
    Calls Tryd.prog 60 #[.pointer (some ⟨G, 0, none⟩), .string ⟨cs.toArray⟩] w fun e w' => e = .returned undef ∧ Wk w' K G (bs ++ Sy.bts cs) ∧ Fr K w w' := by
  have hKd := Lib.hid hK
  have hNd := Lib.hid hN
  have hKBd := Lib.hid hKB
  clear hK hN hKB
  have hcs : (ByteArray.mk cs.toArray).size = cs.length := rfl
  go_enter Tryd.func60, Tryd.ntmps60
  go_wp2_with fail
  refine (wuint_k _ _ hKd.out hW (by omega)).mono ?_
  rintro e w1 ⟨rfl, hW1, hb1⟩
  obtain ⟨hBG, v, hblk, hown, hvK⟩ := hW1
  have hsz := Lib.hid hb1.size
  obtain ⟨R, cr, rfl, -, -⟩ := own_slice hown
  have hl10 := Wire.length_uint (BitVec.ofNat 64 cs.length)
  have hlo : (bs ++ Wire.uint (BitVec.ofNat 64 cs.length)).length + cs.length ≤ 140737488355328 := by simp; omega
  obtain ⟨O, hO'⟩ : ∃ O, bs ++ Wire.uint (BitVec.ofNat 64 cs.length) = O := ⟨_, rfl⟩
  rw [hO'] at hown hlo hblk hvK
  have hvKd := Lib.hid hvK
  clear hvK
  have hO := Lib.hid hO'
  have hown := own_rise hown (fun g hg => hKBd.out g (hvKd.out g hg))
  have hd : w1.cell? ⟨G, 0, none⟩ = some (.slice R O.length cr) := (hblk.cell 0).trans rfl
  have hne := Lib.hid (own_blk_ne hown hblk (by decide))
  obtain ⟨N, hN⟩ : ∃ N, (O ++ cs).length = N := ⟨_, rfl⟩
  have hN' := Lib.hid hN
  have hlo := Lib.hid hlo
  have hBG' := Lib.hid hBG
  have hown' := Lib.hid hown
  have hk1 := Lib.hid hblk
  clear hO' hblk hN hcs hl10
  go_wp2_with (first
    | ((with_reducible refine wpl_append_str rfl (.tmp 13) (.tmp 14) 23 9 rfl B 5 ?_ ?_ ?_ _ ?_ _ hown cs ?_ hlo.out (Nat.le_trans hBw hb1.size) N hN'.out ?_); rfl; rfl; kernel_rfl; rfl; rfl; intro A5 c5 w5 ho5 hg5;
        have k5 := hk1.out.grown hg5 (fun e => hne.out e.symm);
        have hz5 := k5.frozen 0;
        have d5 : w5.cell? ⟨G, 0, none⟩ = some (.slice R O.length cr) := (k5.cell 0).trans rfl;
        have e5 := Lib.hid (hb1.grown hg5 (fun k hk => .inl (hvKd.out k hk)));
        have hv5 : Hid (∀ g, (Value.slice A5 N c5).ownBlock = some g → K g) := (fun g hg => old_row hb1 hKd.out hNd.out hvKd.out hg5 ho5 hg);
        have hne5 := Lib.hid (own_blk_ne ho5 k5 (by decide));
        have ho5' := Lib.hid ho5;
        have k5' := Lib.hid k5;
        clear hg5 ho5 hd k5))
  go_returns
  refine ⟨rfl, ⟨hBG'.out, _, k5'.out.set_ 0 _, ?_, hv5.out⟩, e5.out.setCell (.inl hBG'.out) _⟩
  rw [Sy.bts, ← List.append_assoc, show bs ++ Wire.uint (BitVec.ofNat 64 cs.length) = O from hO.out, hN'.out]
  exact own_low (own_set ho5'.out hne5.out) (Nat.zero_le _)
theorem wbytes_k {K : Nat → Prop} {G : Nat} {bs : List UInt8} {A : Option Addr} {l c : Nat} (cs : List UInt8) (w : World) (S : Nat → Prop) (hS : ∀ i, S i → ¬ K i) (hA : Rd w S A l c cs) (hK : ∀ i, w.heap.size ≤ i → K i) (hW : Wk w K G bs) (hl : bs.length + cs.length ≤ 1000000000) :
    Calls Tryd.prog 34 #[.pointer (some ⟨G, 0, none⟩), (.slice A l c)] w fun e w' => e = .returned undef ∧ Wk w' K G (bs ++ Sy.bts cs) ∧ Fr K w w' := by
  have hKd := Lib.hid hK
  clear hK
  obtain rfl := hA.len
  have hAd := Lib.hid hA
  clear hA
  go_enter Tryd.func34, Tryd.ntmps34
  go_wp2_with fail
  refine (wuint_k _ _ hKd.out hW (by omega)).mono ?_
  rintro e w1 ⟨rfl, hW1, hb1⟩
  obtain ⟨hBG, v, hblk, hown, hvK⟩ := hW1
  have hsz := Lib.hid hb1.size
  obtain ⟨R, cr, rfl, -, -⟩ := own_slice hown
  have hl10 := Wire.length_uint (BitVec.ofNat 64 cs.length)
  have hlo : (bs ++ Wire.uint (BitVec.ofNat 64 cs.length)).length + cs.length ≤ 140737488355328 := by simp; omega
  obtain ⟨O, hO'⟩ : ∃ O, bs ++ Wire.uint (BitVec.ofNat 64 cs.length) = O := ⟨_, rfl⟩
  rw [hO'] at hown hlo hblk hvK
  have hvKd := Lib.hid hvK
  clear hvK
  have hO := Lib.hid hO'
  have hd : w1.cell? ⟨G, 0, none⟩ = some (.slice R O.length cr) := (hblk.cell 0).trans rfl
  have hne := Lib.hid (own_blk_ne hown hblk (by decide))
  obtain ⟨N, hN⟩ : ∃ N, (O ++ cs).length = N := ⟨_, rfl⟩
  have hN' := Lib.hid hN
  have hlo := Lib.hid hlo
  have hBG' := Lib.hid hBG
  have hown' := Lib.hid hown
  have hk1 := Lib.hid hblk
  have hr1 := (hAd.out.fr hb1 hS).all
  clear hO' hblk hN hl10
  go_wp2_with (first
    | ((with_reducible refine wpl_append_sl _ rfl (.tmp 13) (.tmp 14) 23 rfl 0 5 ?_ ?_ _ ?_ _ hown _ _ ?_ cs hr1 hlo.out (Nat.zero_le _) N hN'.out ?_); rfl; kernel_rfl; rfl; rfl; intro A5 c5 w5 ho5 hg5 hb5;
        have k5 := hk1.out.grown hg5 (fun e => hne.out e.symm);
        have hz5 := k5.frozen 0;
        have d5 : w5.cell? ⟨G, 0, none⟩ = some (.slice R O.length cr) := (k5.cell 0).trans rfl;
        have e5 := Lib.hid (hb1.grown hg5 (fun k hk => .inl (hvKd.out k hk)));
        have hv5 : Hid (∀ g, (Value.slice A5 N c5).ownBlock = some g → K g) := (fun g hg => by rcases hb5 with h | h; exact hvKd.out g (h.symm.trans hg); exact hKd.out g (by have := hsz.out; rw [h] at hg; have := Option.some.inj hg; omega));
        have hne5 := Lib.hid (own_blk_ne ho5 k5 (by decide));
        have ho5' := Lib.hid ho5;
        have k5' := Lib.hid k5;
        clear hg5 ho5 hd k5))
  go_returns
  refine ⟨rfl, ⟨hBG'.out, _, k5'.out.set_ 0 _, ?_, hv5.out⟩, e5.out.setCell (.inl hBG'.out) _⟩
  rw [Sy.bts, ← List.append_assoc, show bs ++ Wire.uint (BitVec.ofNat 64 cs.length) = O from hO.out, hN'.out]
  exact own_set ho5'.out hne5.out
theorem wdata_k {K : Nat → Prop} {G : Nat} {bs : List UInt8} (w : World) (hW : Wk w K G bs) (hl : bs.length ≤ 1000000000) :
    Calls Tryd.prog 37 #[.pointer (some ⟨G, 0, none⟩)] w fun e w' =>
      ∃ A c, e = .returned (.slice A bs.length c) ∧ w'.ownsRow w.heap.size 5 1 (.slice A bs.length c) bs.length (bs.map u8v) ∧ Below w.heap.size w w' := by
  obtain ⟨hBG, v, hblk, hown, -⟩ := hW
  obtain ⟨R, cr, rfl, hrd, -⟩ := own_slice hown
  have hd : (w.alloc (.cells #[] 5)).cell? ⟨G, 0, none⟩ = some (.slice R bs.length cr) := ((hblk.alloc _).cell 0).trans rfl
  have o1 := own_alloc w (Nat.le_refl _) 5 [] #[] rfl rfl (by decide)
  have f1 : Fr (fun _ => False) w (w.alloc (.cells #[] 5)) := (Fr.refl (fun _ => False) w).alloc _
  have b1 : Bytes (w.alloc (.cells #[] 5)) (w.alloc (.cells #[] 5)).heap.size (.slice R bs.length cr) bs := (hrd.fr f1 (fun _ _ h => h)).all
  clear hrd hown
  go_enter Tryd.func37, Tryd.ntmps37
  go_wp2_with (first
    | ((with_reducible refine wpl_append_sl _ rfl (.tmp 3) (.tmp 7) 23 rfl w.heap.size 5 ?_ ?_ _ ?_ [] o1 _ _ ?_ bs b1 (by simp; omega) f1.size bs.length rfl ?_); rfl; kernel_rfl; rfl; rfl; intro R2 c2 w2 ho2 hg2 hb2;
          have f2 := f1.grown hg2 (fun g h => .inr (by have : w.heap.size = g := Option.some.inj h; omega))))
  go_ret
  exact ⟨R2, c2, rfl, ho2, f2.below (fun _ h => h.elim) (Nat.le_refl _)⟩
end Go.Proofs.YtajohibeoicepaaDoor

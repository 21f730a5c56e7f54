/-
  The reference's digests of parts, walked.
-/
import Derived.Test.YthoaenpbmmjokaaDoorObSum
namespace Go.Proofs.YthoaenpbmmjokaaDoor
open Go.RowKit Go.Pl
theorem refnumber_any (w : World) (n : Nat) (_hn : n ≤ 1099511627776) :
    Calls Tryd.prog 46 #[.int .i64 n] w fun e w' => ∃ A c, e = .returned (.slice A 4 c) ∧ w'.ownsRow w.heap.size 5 1 (.slice A 4 c) 4 ((Ob.num n).map u8v) ∧ Below w.heap.size w w' := by
  have e0 : ∀ z : Int, Value.int .u8 (z % 256) = .int .u8 ((z : Int) % 256) := fun _ => rfl
  have hcs : Hid ((#[.int .u8 ((n : Int) / 16777216 % 256), .int .u8 ((n : Int) / 65536 % 256), .int .u8 ((n : Int) / 256 % 256), .int .u8 ((n : Int) % 256)] : Array Value).toList = (Ob.num n).map u8v) := by
    show _ = _
    simp only [Ob.num, List.map_cons, List.map_nil, u8_of]
    simp
  go_enter Tryd.func46, Tryd.ntmps46
  go_wp2_with fail
  go_ret
  exact ⟨_, _, rfl, own_alloc w (Nat.le_refl _) 5 (Ob.num n) _ hcs.out rfl (by decide), (Below.refl _ _).alloc (Nat.le_refl _) _⟩
/-- The bytes of a leaf. -/
theorem refleafd_any (w : World) (k : List UInt8) (hk : k.length ≤ 1000000) {A : Option Addr} {n c : Nat} {l : List UInt8} (hl : Rd w (fun _ => True) A n c l) (hll : l.length ≤ 1000000) :
    Calls Tryd.prog 37 #[.string ⟨k.toArray⟩, .slice A n c] w fun e w' => ∃ A m d, e = .returned (.slice A m d) ∧ Rd w' (fun i => w.heap.size ≤ i) A m d (Ob.leafB k l) ∧ Below w.heap.size w w' := by
  have hsz : (⟨k.toArray⟩ : ByteArray).size = k.length := by simp [ByteArray.size]
  have hld := Lib.hid hl
  have hlld := Lib.hid hll
  obtain rfl := hl.len
  clear hl hll
  go_enter Tryd.func37, Tryd.ntmps37
  go_wp2_with fail
  obtain ⟨w1, hw1⟩ : ∃ x, w.alloc (.cells #[.int .u8 0] 5) = x := ⟨_, rfl⟩
  have hX : w1.ownsRow w.heap.size 5 1 (.slice (some ⟨w.heap.size, 0, none⟩) 1 1) 1 (([0] : List UInt8).map u8v) := by rw [← hw1]; exact own_alloc w (Nat.le_refl _) 5 [0] _ rfl rfl (by decide)
  have hb1 : Hid (Below w.heap.size w w1) := by show Below _ _ _; rw [← hw1]; exact (Below.refl _ _).alloc (Nat.le_refl _) _
  rw [hw1]
  obtain ⟨xb, hxb⟩ : ∃ x, w.heap.size = x := ⟨_, rfl⟩
  have hxbd := Lib.hid hxb
  rw [hxb] at hX ⊢
  clear hw1 hxb
  refine (refnumber_any w1 k.length (by omega)).mono ?_
  rintro e w2 ⟨A2, c2, rfl, ho2, hb2⟩
  have hb02 : Hid (Below w.heap.size w w2) := hb1.out.trans (hb2.mono hb1.out.size)
  have hX2 := own_fr hX (Fr.of_below (F := fun _ => False) hb2) (fun _ _ h => h)
  have hy2 : Bytes w2 w2.heap.size (.slice A2 4 c2) (Ob.num k.length) := (own_rd (bs := Ob.num k.length) ho2).all
  have hs2 : xb ≤ w2.heap.size := by have h1 := hb02.out.size; have h2 := hxbd.out; omega
  obtain ⟨N, hN⟩ : ∃ N, Ob.num k.length = N := ⟨_, rfl⟩
  have hNl : N.length = 4 := by rw [← hN]; rfl
  rw [hN] at hy2
  have hNd := Lib.hid hN
  have hm1 : ([0] : List UInt8).length + N.length ≤ 140737488355328 := by simp; omega
  have hX3 : w2.ownsRow xb 5 1 (.slice (some ⟨xb, 0, none⟩) 1 1) ([0] : List UInt8).length (([0] : List UInt8).map u8v) := hX2
  obtain ⟨O1, hO1⟩ : ∃ O1, [0] ++ N = O1 := ⟨_, rfl⟩
  have hm2 : ([0] ++ N).length = O1.length := by rw [hO1]
  have hO1l : Hid (O1.length = 5) := by show _ = _; rw [← hO1]; simp [hNl]
  obtain ⟨Z, hZ⟩ : ∃ Z, ([0] : List UInt8) = Z := ⟨_, rfl⟩
  rw [hZ] at hm1 hm2 hX3 hO1
  have hZd := Lib.hid hZ
  have hO1d := Lib.hid hO1
  obtain ⟨O2, hO2⟩ : ∃ O2, O1 ++ k = O2 := ⟨_, rfl⟩
  have hO2d := Lib.hid hO2
  have hO2l : Hid (O2.length = 5 + k.length) := by show _ = _; rw [← hO2, List.length_append, hO1l.out]
  have hO3l : Hid ((O2 ++ l).length = O2.length + l.length) := List.length_append
  have hq2 : Hid (O1.length + k.length ≤ 140737488355328) := by show _ ≤ _; have h1 := hO1l.out; omega
  have hq3 : Hid (O2.length + l.length ≤ 140737488355328) := by show _ ≤ _; have h1 := hO2l.out; have h2 := hlld.out; omega
  clear hX ho2 hb2 hN hNl hX2 hZ hO1 hO2
  go_wp2_with (first
    | ((with_reducible refine wpl_append_sl _ rfl (.tmp 6) (.tmp 9) 23 rfl xb 5 ?_ ?_ _ ?_ Z hX3 _ _ ?_ N hy2 hm1 hs2 O1.length hm2 ?_); rfl; kernel_rfl; rfl; rfl; intro A3 c3 w3 ho3 hg3 hz3; rw [hO1d.out] at ho3;
        have hb3 := Lib.hid (hb02.out.grown hg3 hb02.out.size (fun i hi => by have h1 := own_base hX3 hi; have h2 := hxbd.out; omega));
        have hs3 : xb ≤ w3.heap.size := (by have h1 := hb3.out.size; have h2 := hxbd.out; omega);
        clear hX3 hy2 hm1 hm2 hg3 hz3)
    | ((with_reducible refine wpl_append_str rfl (.tmp 11) (.tmp 12) 23 9 rfl xb 5 ?_ ?_ ?_ _ ?_ O1 ho3 k ?_ hq2.out hs3 O2.length (congrArg List.length hO2d.out) ?_); rfl; rfl; kernel_rfl; rfl; rfl; intro A4 c4 w4 ho4 hg4; rw [hO2d.out] at ho4;
        have hb4 := Lib.hid (hb3.out.grown hg4 hb3.out.size (fun i hi => by have h1 := own_base ho3 hi; have h2 := hxbd.out; omega));
        have hs4 : xb ≤ w4.heap.size := (by have h1 := hb4.out.size; have h2 := hxbd.out; omega);
        have hl4 := (hld.out.fr (Fr.of_below (F := fun _ => False) hb4.out) (fun _ _ h => h)).all;
        clear ho3 hg4 )
    | ((with_reducible refine wpl_append_sl _ rfl (.tmp 14) (.tmp 15) 23 rfl xb 5 ?_ ?_ _ ?_ O2 ho4 _ _ ?_ l hl4 hq3.out hs4 (O2 ++ l).length rfl ?_); rfl; kernel_rfl; rfl; rfl; intro A5 c5 w5 ho5 hg5 hz5;
        have hb5 := Lib.hid (hb4.out.grown hg5 hb4.out.size (fun i hi => by have h1 := own_base ho4 hi; have h2 := hxbd.out; omega));
        have ho5d := Lib.hid ho5;
        clear ho4 hg5 hz5 hl4 ho5))
  go_ret
  have e2 : O2 ++ l = Ob.leafB k l := by rw [← hO2d.out, ← hO1d.out, ← hZd.out, ← hNd.out]; simp [Ob.leafB]
  have ho6 := ho5d.out
  have hrd := own_rd ho6
  have hlen := hO3l.out
  exact ⟨_, _, _, rfl, by rw [← hlen, ← e2]; exact hrd.mono (fun i _ h => by have h1 := own_base ho6 h; have h2 := hxbd.out; omega), hb5.out⟩
/-- The bytes of a node. -/
theorem refnoded_any (w : World) (bit : Nat) (hbit : bit ≤ 1099511627776) {A B : Option Addr} {n m c d : Nat} {k l : List UInt8} (hk : Rd w (fun _ => True) A n c k) (hl : Rd w (fun _ => True) B m d l) (hkl : k.length ≤ 1000000) (hll : l.length ≤ 1000000) :
    Calls Tryd.prog 39 #[.int .i64 bit, .slice A n c, .slice B m d] w fun e w' => ∃ A m d, e = .returned (.slice A m d) ∧ Rd w' (fun i => w.heap.size ≤ i) A m d (Ob.nodeB bit k l) ∧ Below w.heap.size w w' := by
  have hkd := Lib.hid hk
  have hkld := Lib.hid hkl
  have hld := Lib.hid hl
  have hlld := Lib.hid hll
  obtain rfl := hk.len
  obtain rfl := hl.len
  clear hk hkl hl hll
  go_enter Tryd.func39, Tryd.ntmps39
  go_wp2_with fail
  obtain ⟨w1, hw1⟩ : ∃ x, w.alloc (.cells #[.int .u8 1] 5) = x := ⟨_, rfl⟩
  have hX : w1.ownsRow w.heap.size 5 1 (.slice (some ⟨w.heap.size, 0, none⟩) 1 1) 1 (([1] : List UInt8).map u8v) := by rw [← hw1]; exact own_alloc w (Nat.le_refl _) 5 [1] _ rfl rfl (by decide)
  have hb1 : Hid (Below w.heap.size w w1) := by show Below _ _ _; rw [← hw1]; exact (Below.refl _ _).alloc (Nat.le_refl _) _
  rw [hw1]
  obtain ⟨xb, hxb⟩ : ∃ x, w.heap.size = x := ⟨_, rfl⟩
  have hxbd := Lib.hid hxb
  rw [hxb] at hX ⊢
  clear hw1 hxb
  refine (refnumber_any w1 bit hbit).mono ?_
  rintro e w2 ⟨A2, c2, rfl, ho2, hb2⟩
  have hb02 : Hid (Below w.heap.size w w2) := hb1.out.trans (hb2.mono hb1.out.size)
  have hX2 := own_fr hX (Fr.of_below (F := fun _ => False) hb2) (fun _ _ h => h)
  have hy2 : Bytes w2 w2.heap.size (.slice A2 4 c2) (Ob.num bit) := (own_rd (bs := Ob.num bit) ho2).all
  have hs2 : xb ≤ w2.heap.size := by have h1 := hb02.out.size; have h2 := hxbd.out; omega
  obtain ⟨N, hN⟩ : ∃ N, Ob.num bit = N := ⟨_, rfl⟩
  have hNl : N.length = 4 := by rw [← hN]; rfl
  rw [hN] at hy2
  have hNd := Lib.hid hN
  have hm1 : ([1] : List UInt8).length + N.length ≤ 140737488355328 := by simp; omega
  have hX3 : w2.ownsRow xb 5 1 (.slice (some ⟨xb, 0, none⟩) 1 1) ([1] : List UInt8).length (([1] : List UInt8).map u8v) := hX2
  obtain ⟨O1, hO1⟩ : ∃ O1, [1] ++ N = O1 := ⟨_, rfl⟩
  have hm2 : ([1] ++ N).length = O1.length := by rw [hO1]
  have hO1l : Hid (O1.length = 5) := by show _ = _; rw [← hO1]; simp [hNl]
  obtain ⟨Z, hZ⟩ : ∃ Z, ([1] : List UInt8) = Z := ⟨_, rfl⟩
  rw [hZ] at hm1 hm2 hX3 hO1
  have hZd := Lib.hid hZ
  have hO1d := Lib.hid hO1
  obtain ⟨O2, hO2⟩ : ∃ O2, O1 ++ k = O2 := ⟨_, rfl⟩
  have hO2d := Lib.hid hO2
  have hO2l : Hid (O2.length = 5 + k.length) := by show _ = _; rw [← hO2, List.length_append, hO1l.out]
  have hO3l : Hid ((O2 ++ l).length = O2.length + l.length) := List.length_append
  have hq2 : Hid (O1.length + k.length ≤ 140737488355328) := by show _ ≤ _; have h1 := hO1l.out; have h2 := hkld.out; omega
  have hq3 : Hid (O2.length + l.length ≤ 140737488355328) := by show _ ≤ _; have h1 := hO2l.out; have h2 := hlld.out; have h3 := hkld.out; omega
  clear hX ho2 hb2 hN hNl hX2 hZ hO1 hO2
  go_wp2_with (first
    | ((with_reducible refine wpl_append_sl _ rfl (.tmp 8) (.tmp 10) 23 rfl xb 5 ?_ ?_ _ ?_ Z hX3 _ _ ?_ N hy2 hm1 hs2 O1.length hm2 ?_); rfl; kernel_rfl; rfl; rfl; intro A3 c3 w3 ho3 hg3 hz3; rw [hO1d.out] at ho3;
        have hb3 := Lib.hid (hb02.out.grown hg3 hb02.out.size (fun i hi => by have h1 := own_base hX3 hi; have h2 := hxbd.out; omega));
        have hs3 : xb ≤ w3.heap.size := (by have h1 := hb3.out.size; have h2 := hxbd.out; omega); have hk3 := (hkd.out.fr (Fr.of_below (F := fun _ => False) hb3.out) (fun _ _ h => h)).all;
        clear hX3 hy2 hm1 hm2 hg3 hz3)
    | ((with_reducible refine wpl_append_sl _ rfl (.tmp 12) (.tmp 13) 23 rfl xb 5 ?_ ?_ _ ?_ O1 ho3 _ _ ?_ k hk3 hq2.out hs3 O2.length (congrArg List.length hO2d.out) ?_); rfl; kernel_rfl; rfl; rfl; intro A4 c4 w4 ho4 hg4 hz4; rw [hO2d.out] at ho4;
        have hb4 := Lib.hid (hb3.out.grown hg4 hb3.out.size (fun i hi => by have h1 := own_base ho3 hi; have h2 := hxbd.out; omega));
        have hs4 : xb ≤ w4.heap.size := (by have h1 := hb4.out.size; have h2 := hxbd.out; omega);
        have hl4 := (hld.out.fr (Fr.of_below (F := fun _ => False) hb4.out) (fun _ _ h => h)).all;
        clear ho3 hg4 hz4 hk3)
    | ((with_reducible refine wpl_append_sl _ rfl (.tmp 15) (.tmp 16) 23 rfl xb 5 ?_ ?_ _ ?_ O2 ho4 _ _ ?_ l hl4 hq3.out hs4 (O2 ++ l).length rfl ?_); rfl; kernel_rfl; rfl; rfl; intro A5 c5 w5 ho5 hg5 hz5;
        have hb5 := Lib.hid (hb4.out.grown hg5 hb4.out.size (fun i hi => by have h1 := own_base ho4 hi; have h2 := hxbd.out; omega));
        have ho5d := Lib.hid ho5;
        clear ho4 hg5 hz5 hl4 ho5))
  go_ret
  have e2 : O2 ++ l = Ob.nodeB bit k l := by rw [← hO2d.out, ← hO1d.out, ← hZd.out, ← hNd.out]; simp [Ob.nodeB]
  have ho6 := ho5d.out
  have hrd := own_rd ho6
  have hlen := hO3l.out
  exact ⟨_, _, _, rfl, by rw [← hlen, ← e2]; exact hrd.mono (fun i _ h => by have h1 := own_base ho6 h; have h2 := hxbd.out; omega), hb5.out⟩
theorem refsums_any {A : Option Addr} {n c : Nat} {bs : List UInt8} (w : World) (hA : Rd w (fun _ => True) A n c bs) (hl : bs.length ≤ 70368744177664) :
    Calls Tryd.prog 36 #[.slice A n c] w fun e w' => ∃ A m d, e = .returned (.slice A m d) ∧ Rd w' (fun i => w.heap.size ≤ i) A m d (Sha.sha bs) ∧ Below w.heap.size w w' := by
  go_enter Tryd.func36, Tryd.ntmps36
  go_wp2_with fail
  refine (refsum_any w hA hl).mono ?_
  rintro e w2 ⟨rfl, hb2⟩
  obtain ⟨hs, hhs⟩ : ∃ hs, Sha.sha bs = hs := ⟨_, rfl⟩
  rw [hhs]
  have hsl : hs.length ≤ maxLen := by
    rw [← hhs, Sha.length_sha]
    decide
  have hb12 := Lib.hid hb2
  have hhsd := Lib.hid hhs
  clear hb2 hhs hA
  go_wp2_with ((with_reducible refine wpl_bytes_str rfl 9 23 5 (.tmp 4) rfl ?_ ?_ ?_ hs ?_ hsl ?_); rfl; rfl; rfl; rfl; intro c3 w3 hd3 hg3)
  have hb3 : Below w2.heap.size w2 w3 := (Below.refl _ _).grown hg3 (Nat.le_refl _) (fun k hk => by cases hk)
  go_wp2_with fail
  go_ret
  exact ⟨_, _, _, rfl, by rw [hhsd.out]; exact hd3.rd.mono (T := fun i => w.heap.size ≤ i) (fun i _ h => by have h : i = w2.heap.size := h; rw [h]; exact hb12.out.size), hb12.out.trans (hb3.mono hb12.out.size)⟩
theorem refleaf_any (w : World) (k : List UInt8) (hk : k.length ≤ 1000000) {A : Option Addr} {n c : Nat} {l : List UInt8} (hl : Rd w (fun _ => True) A n c l) (hll : l.length ≤ 1000000) :
    Calls Tryd.prog 26 #[.string ⟨k.toArray⟩, .slice A n c] w fun e w' => ∃ A m d, e = .returned (.slice A m d) ∧ Rd w' (fun i => w.heap.size ≤ i) A m d (Ob.leafH k l) ∧ Below w.heap.size w w' := by
  go_enter Tryd.func26, Tryd.ntmps26
  go_wp2_with fail
  refine (refsums_any w hl (by omega)).mono ?_
  rintro e w1 ⟨A1, n1, c1, rfl, hr1, hb1⟩
  have hr1d := Lib.hid hr1
  have hb1d := Lib.hid hb1
  clear hr1 hb1 hl
  go_wp2_with fail
  refine (refleafd_any w1 k hk (hr1d.out.mono (fun _ _ _ => trivial)) (by rw [Sha.length_sha]; decide)).mono ?_
  rintro e w2 ⟨A2, n2, c2, rfl, hr2, hb2⟩
  have hr2d := Lib.hid hr2
  have hb2d := Lib.hid (hb1d.out.trans (hb2.mono hb1d.out.size))
  have hl2 : Hid ((Ob.leafB k (Sha.sha l)).length ≤ 70368744177664) := by show _ ≤ _; simp [Ob.leafB, Ob.num_len, Sha.length_sha]; omega
  clear hr2 hb2
  go_wp2_with fail
  refine (refsums_any w2 (hr2d.out.mono (fun _ _ _ => trivial)) hl2.out).mono ?_
  rintro e w3 ⟨A3, n3, c3, rfl, hr3, hb3⟩
  go_wp2_with fail
  go_ret
  exact ⟨_, _, _, rfl, hr3.mono (fun i _ h => Nat.le_trans hb2d.out.size h), hb2d.out.trans (hb3.mono hb2d.out.size)⟩
end Go.Proofs.YthoaenpbmmjokaaDoor

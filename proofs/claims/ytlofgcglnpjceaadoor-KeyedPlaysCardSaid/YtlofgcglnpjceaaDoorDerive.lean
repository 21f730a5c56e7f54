/-
  Derive, the program's and the reference's.
-/
import Derived.Test.YtlofgcglnpjceaaDoorRefTag
namespace Go.Proofs.YtlofgcglnpjceaaDoor
open Go.RowKit Go.Pl
def I64 (z : Int) : Prop := -9223372036854775808 ≤ z ∧ z ≤ 9223372036854775807
set_option maxRecDepth 100000 in
set_option maxHeartbeats 1000000 in
theorem derive_any {A : Option Addr} {n c : Nat} {k : List UInt8} (w : World) (hK : Kst w) (hA : Rd w (fun _ => True) A n c k) (hlk : k.length ≤ 1000000) (p h : Int) (hp : I64 p) (hh : I64 h) :
    Calls Tryd.prog 14 #[.slice A n c, .int .i64 p, .int .i64 h] w fun e w' => Digged w (Keyed.key k p h) e w' := by
  have hA' : Rd w (fun i => i < w.heap.size) A n c k := hA.mono (fun i hi _ => hi)
  have hW : Wr (w.alloc (.cells #[.slice none 0 0] 51)) w.heap.size w.heap.size [] := ⟨Nat.le_refl _, _, Blk.new w _ _, rfl, .inl ⟨rfl, rfl⟩⟩
  have hb0 : Below w.heap.size w (w.alloc (.cells #[.slice none 0 0] 51)) := (Below.refl _ _).alloc (Nat.le_refl _) _
  have l1 := Wire.length_uint (BitVec.ofNat 64 3)
  have l2 := Wire.length_int p
  have l3 := Wire.length_int h
  have hK' := Lib.hid hK
  clear hK hA
  go_enter Tryd.func14, Tryd.ntmps14
  go_wp2_with fail
  refine (wtext_any [107, 101, 121] _ hW (by simp)).mono ?_
  rintro e w1 ⟨rfl, hW1, hb1'⟩
  have hb1 := hb0.trans hb1'
  clear hb1' hb0 hW
  go_wp2_with fail
  refine (wint_any p hp.1 hp.2 _ hW1 (by simp; omega)).mono ?_
  rintro e w2 ⟨rfl, hW2, hb2'⟩
  have hb2 := hb1.trans hb2'
  clear hb2' hb1 hW1
  go_wp2_with fail
  refine (wint_any h hh.1 hh.2 _ hW2 (by simp; omega)).mono ?_
  rintro e w3 ⟨rfl, hW3, hb3'⟩
  have hb3 := hb2.trans hb3'
  clear hb3' hb2 hW2
  have hW3 : Wr w3 w.heap.size w.heap.size (Keyed.keyIn p h) := hW3
  have hln := Keyed.length_keyIn p h
  obtain ⟨M, hM⟩ : ∃ M, Keyed.keyIn p h = M := ⟨_, rfl⟩
  rw [hM] at hW3 hln
  have hKey : Hid (Keyed.key k p h = Keyed.tag k M) := by show _ = _; rw [Keyed.key, hM]
  clear hM l1 l2 l3
  have hln := Lib.hid hln
  go_wp2_with fail
  refine (wdata_any _ hW3 (by have := hln.out; omega)).mono ?_
  rintro e w4 ⟨A4, c4, rfl, ho4, hb4'⟩
  have hb4 := hb3.trans (hb4'.mono hb3.size)
  have hr4 : Rd w4 (fun _ => True) A4 M.length c4 M := (own_rd ho4).mono (fun _ _ _ => trivial)
  have hA4 := (hA'.keep (w' := w4) hb4.size (fun q hq _ => hb4.cell hq)).mono (T := fun _ => True) (fun _ _ _ => trivial)
  have hK4 := hK'.out.below hb4 hK'.out.pos
  clear hb4' hb3 hW3 ho4 hA'
  go_wp2_with fail
  refine (tag_any _ hK4 hA4 hr4 hlk (by have := hln.out; omega)).mono ?_
  rintro e w5 ⟨g5, n5, c5, hn5, rfl, hg5, hd5, hb5'⟩
  have hb5 := hb4.trans (hb5'.mono hb4.size)
  have hg5' := Lib.hid (Nat.le_trans hb4.size hg5)
  have hn5' := Lib.hid hn5
  clear hn5 hg5
  go_wp2_with fail
  go_ret
  exact ⟨g5, n5, c5, by rw [hn5'.out, hKey.out], rfl, hg5'.out, hKey.out ▸ hd5, hb5⟩
set_option maxRecDepth 100000 in
set_option maxHeartbeats 1000000 in
theorem refderive_any {A : Option Addr} {n c : Nat} {k : List UInt8} (w : World) (hA : Rd w (fun _ => True) A n c k) (hlk : k.length ≤ 1000000) (p h : Int) (hp : I64 p) (hh : I64 h) :
    Calls Tryd.prog 15 #[.slice A n c, .int .i64 p, .int .i64 h] w fun e w' => Digged w (Keyed.key k p h) e w' := by
  have hA' : Rd w (fun i => i < w.heap.size) A n c k := hA.mono (fun i hi _ => hi)
  have l1 := Wire.length_uint (BitVec.ofNat 64 3)
  have l2 := Wire.length_int p
  have l3 := Wire.length_int h
  have hr0 : Rd w (fun _ => True) none 0 0 [] := ⟨rfl, Nat.le_refl _, by simp [maxLen], fun _ => rfl, fun h => by omega⟩
  clear hA
  go_enter Tryd.func15, Tryd.ntmps15
  go_wp2_with fail
  refine (reftext_any (bs := []) [107, 101, 121] _ hr0 (by simp)).mono ?_
  rintro e w1 ⟨A1, n1, c1, hn1, rfl, ho1, hb1⟩
  have hr1 : Rd w1 (fun _ => True) A1 n1 c1 _ := (own_rd ho1).mono (fun _ _ _ => trivial)
  clear ho1
  obtain ⟨M1, hM1⟩ : ∃ M, [] ++ Wire.uint (BitVec.ofNat 64 ([107, 101, 121] : List UInt8).length) ++ [107, 101, 121] = M := ⟨_, rfl⟩
  have hl1 : M1.length ≤ 13 := by rw [← hM1]; simp; omega
  rw [hM1] at hr1
  have hl1' := Lib.hid hl1
  clear hn1 hl1
  go_wp2_with fail
  refine (refint_any p hp.1 hp.2 _ hr1 (by have := hl1'.out; omega)).mono ?_
  rintro e w2 ⟨A2, n2, c2, hn2, rfl, ho2, hb2'⟩
  have hb2 := hb1.trans (hb2'.mono hb1.size)
  have hr2 : Rd w2 (fun _ => True) A2 n2 c2 _ := (own_rd ho2).mono (fun _ _ _ => trivial)
  obtain ⟨M2, hM2⟩ : ∃ M, M1 ++ Wire.int p = M := ⟨_, rfl⟩
  have hl2 : M2.length ≤ 23 := by rw [← hM2]; have := hl1'.out; simp; omega
  rw [hM2] at hr2
  have hl2' := Lib.hid hl2
  clear hn2 hl2 ho2 hb2' hb1 hr1
  go_wp2_with fail
  refine (refint_any h hh.1 hh.2 _ hr2 (by have := hl2'.out; omega)).mono ?_
  rintro e w3 ⟨A3, n3, c3, hn3, rfl, ho3, hb3'⟩
  have hb3 := hb2.trans (hb3'.mono hb2.size)
  have hr3 : Rd w3 (fun _ => True) A3 n3 c3 _ := (own_rd ho3).mono (fun _ _ _ => trivial)
  have hE : M2 ++ Wire.int h = Keyed.keyIn p h := by rw [← hM2, ← hM1]; rfl
  rw [hE] at hr3
  have hln := Keyed.length_keyIn p h
  obtain ⟨M, hM⟩ : ∃ M, Keyed.keyIn p h = M := ⟨_, rfl⟩
  rw [hM] at hr3 hln
  have hKey : Hid (Keyed.key k p h = Keyed.tag k M) := by show _ = _; rw [Keyed.key, hM]
  have hln := Lib.hid hln
  have hA3 := (hA'.keep (w' := w3) hb3.size (fun q hq _ => hb3.cell hq)).mono (T := fun _ => True) (fun _ _ _ => trivial)
  clear hM hE l1 l2 l3 hM1 hM2 hn3 ho3 hb3' hb2 hr2 hA'
  go_wp2_with fail
  refine (reftag_any _ hA3 hr3 hlk (by have := hln.out; omega)).mono ?_
  rintro e w5 ⟨g5, n5, c5, hn5, rfl, hg5, hd5, hb5'⟩
  have hb5 := hb3.trans (hb5'.mono hb3.size)
  have hg5' := Lib.hid (Nat.le_trans hb3.size hg5)
  have hn5' := Lib.hid hn5
  clear hn5 hg5
  go_wp2_with fail
  go_ret
  exact ⟨g5, n5, c5, by rw [hn5'.out, hKey.out], rfl, hg5'.out, hKey.out ▸ hd5, hb5⟩
end Go.Proofs.YtlofgcglnpjceaaDoor

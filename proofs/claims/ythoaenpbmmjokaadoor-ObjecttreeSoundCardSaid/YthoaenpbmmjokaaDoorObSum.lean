/-
  Digests of joined parts, walked.
-/
import Derived.Test.YthoaenpbmmjokaaDoorObNum
import Derived.Test.YthoaenpbmmjokaaDoorJoin
import Derived.Test.YthoaenpbmmjokaaDoorRefSum
namespace Ob
def leafB (k d : List UInt8) : List UInt8 := 0 :: (num k.length ++ (k ++ d))
def nodeB (bit : Nat) (l r : List UInt8) : List UInt8 := 1 :: (num bit ++ (l ++ r))
def leafH (k c : List UInt8) : List UInt8 := Sha.sha (leafB k (Sha.sha c))
end Ob
namespace Go.Pl
open Go.RowKit
theorem rd_of_fresh {B : Nat} {w : World} {v : Value} {l : List UInt8} (h : Lib.FreshBytes B w v l) : ∃ A c, v = .slice A l.length c ∧ Rd w (fun i => B ≤ i) A l.length c l := by
  obtain ⟨g, cap, zs, rfl, hB, hl, hm, hz, hwf, hb, hc, hf⟩ := h
  refine ⟨_, _, rfl, rfl, hl, hm, (fun e => by cases e), fun hn => ⟨g, 0, rfl, hB, ?_, fun i hi => ?_⟩⟩
  · have := World.block_lt_of_cell? w _ (hc 0 (by omega))
    exact this
  · rw [Nat.zero_add, hc i (by omega)]
    have hiz : i < zs.length := by omega
    have h1 := hwf _ (List.getElem_mem hiz)
    have h2 : l[i]? = some (UInt8.ofNat zs[i].toNat) := by
      rw [← hb, Lib.bytesOf, List.getElem?_map, List.getElem?_take, if_pos hi, List.getElem?_eq_getElem hiz]; rfl
    rw [List.getD_eq_getElem?_getD, List.getD_eq_getElem?_getD, h2, List.getElem?_eq_getElem hiz]
    show some (Value.int .u8 zs[i]) = some (.int .u8 ((UInt8.ofNat zs[i].toNat).toNat : Int))
    rw [UInt8.toNat_ofNat']
    congr 2
    omega
theorem holds_of_rd {w : World} {S : Nat → Prop} {A : Option Addr} {n c : Nat} {bs : List UInt8} (h : Rd w S A n c bs) : Lib.HoldsBytes w (.slice A n c) bs := by
  refine ⟨A, c, by rw [h.len], fun e => ?_, fun a ha i x hx => ?_⟩
  · have := h.none e
    have := h.le
    have := h.len
    exact List.eq_nil_of_length_eq_zero (by omega)
  · have hi := (List.getElem?_eq_some_iff.1 hx).1
    obtain ⟨b, o, hA, -, -, hc⟩ := h.at_ (by rw [h.len]; omega)
    rw [hA] at ha
    cases ha
    rw [add_none, hc i (by rw [h.len]; exact hi), List.getD_eq_getElem?_getD, hx]
    rfl
end Go.Pl
namespace Go.Proofs.YthoaenpbmmjokaaDoor
open Go.RowKit Go.Pl
theorem join_flat (ls : List (List UInt8)) : Lib.join ls [] = ls.flatten := by
  cases ls with
  | nil => rfl
  | cons x r =>
    rw [Lib.join_cons]
    unfold Lib.joinTail
    rw [List.flatten_cons]
    congr 1
    simp
theorem holds_nil (w : World) : Lib.HoldsBytes w (.slice none 0 0) [] := ⟨none, 0, rfl, fun _ => rfl, fun a ha => by cases ha⟩
/-- bytes.Join without a separator. -/
theorem join_any (w : World) (b o n c : Nat) (vs : List Value) (ls : List (List UInt8)) (hn : ls.length = n) (h1 : 1 ≤ n) (hP : Lib.PartsAt w ⟨b, o, none⟩ vs ls) (hcap : n ≤ c) (hn4 : n ≤ 1000) (hlen : Lib.lens ls ≤ 140737488355328) :
    Calls Tryd.prog 50 #[.slice (some ⟨b, o, none⟩) n c, .slice none 0 0] w fun e w' => ∃ A m d, e = .returned (.slice A m d) ∧ Rd w' (fun i => w.heap.size ≤ i) A m d ls.flatten ∧ Below w.heap.size w w' := by
  by_cases h2 : 2 ≤ n
  · refine (Tryd.bytes_Join_many b o n c vs ls (.slice none 0 0) [] w hn h2 hP hcap (holds_nil w) (by omega) (by simp only [List.length_nil, Nat.zero_mul, Nat.add_zero]; exact hlen)).mono ?_
    rintro e w' ⟨v', rfl, hf, hb⟩
    rw [join_flat] at hf
    obtain ⟨A, d, rfl, hr⟩ := rd_of_fresh hf
    exact ⟨A, _, d, rfl, hr, hb⟩
  · obtain rfl : n = 1 := by omega
    obtain ⟨l, rfl⟩ : ∃ l, ls = [l] := by
      match ls, hn with
      | [l], _ => exact ⟨l, rfl⟩
    obtain ⟨p, cap, l', hl', hcell, hnil, hcs⟩ := hP.get 0 (by simp)
    obtain rfl : l = l' := by simpa using hl'
    rw [add_none, Nat.add_zero] at hcell
    have hfl : [l].flatten = l := by simp
    rw [hfl]
    by_cases h0 : 0 < l.length
    · cases p with
      | none => rw [hnil rfl] at h0; simp at h0
      | some ad =>
        refine (Tryd.bytes_Join_one b o c ad cap l (.slice none 0 0) w hcell (fun i x hx => hcs ad rfl i x hx) h0 (by simpa [Lib.lens] using hlen)).mono ?_
        rintro e w' ⟨v', rfl, hf, hb⟩
        obtain ⟨A, d, rfl, hr⟩ := rd_of_fresh hf
        exact ⟨A, _, d, rfl, hr, hb⟩
    · obtain rfl : l = [] := List.eq_nil_of_length_eq_zero (by omega)
      refine (Tryd.bytes_Join_one_empty b o c p cap (.slice none 0 0) w hcell).mono ?_
      rintro e w' ⟨rfl, rfl⟩
      exact ⟨none, 0, 0, rfl, ⟨rfl, Nat.le_refl _, by simp [maxLen], fun _ => rfl, fun h => by omega⟩, Below.refl _ _⟩
/-- The digest of joined parts. -/
theorem sums_any (w : World) (hK : Kst w) (b o n c : Nat) (vs : List Value) (ls : List (List UInt8)) (hn : ls.length = n) (h1 : 1 ≤ n) (hP : Lib.PartsAt w ⟨b, o, none⟩ vs ls) (hcap : n ≤ c) (hn4 : n ≤ 1000) (hlen : Lib.lens ls ≤ 70368744177664) :
    Calls Tryd.prog 44 #[.slice (some ⟨b, o, none⟩) n c] w fun e w' => ∃ A m d, e = .returned (.slice A m d) ∧ Rd w' (fun i => w.heap.size ≤ i) A m d (Sha.sha ls.flatten) ∧ Below w.heap.size w w' := by
  have hl2 : ls.flatten.length ≤ 70368744177664 := by rw [List.length_flatten]; exact hlen
  go_enter Tryd.func44, Tryd.ntmps44
  go_wp2_with fail
  refine (join_any w b o n c vs ls hn h1 hP hcap hn4 (by omega)).mono ?_
  rintro e w1 ⟨A, m, d, rfl, hr, hb⟩
  have hrd := Lib.hid hr
  have hbd := Lib.hid hb
  have hK1 := hK.below hb hK.pos
  clear hP hr hb
  go_wp2_with fail
  refine (sum_any w1 hK1 (hrd.out.mono (fun _ _ _ => trivial)) hl2).mono ?_
  rintro e w2 ⟨rfl, hb2⟩
  obtain ⟨hs, hhs⟩ : ∃ hs, Sha.sha ls.flatten = hs := ⟨_, rfl⟩
  rw [hhs]
  have hsl : hs.length ≤ maxLen := by
    rw [← hhs, Sha.length_sha]
    decide
  have hb12 := Lib.hid (hbd.out.trans (hb2.mono hbd.out.size))
  clear hb2
  go_wp2_with ((with_reducible refine wpl_bytes_str rfl 9 23 5 (.tmp 5) rfl ?_ ?_ ?_ hs ?_ hsl ?_); rfl; rfl; rfl; rfl; intro c3 w3 hd3 hg3)
  have hb3 : Below w2.heap.size w2 w3 := (Below.refl _ _).grown hg3 (Nat.le_refl _) (fun k hk => by cases hk)
  go_wp2_with fail
  go_ret
  exact ⟨_, _, _, rfl, by rw [hhs]; exact hd3.rd.mono (T := fun i => w.heap.size ≤ i) (fun i _ h => by have h : i = w2.heap.size := h; rw [h]; exact hb12.out.size), hb12.out.trans (hb3.mono hb12.out.size)⟩
theorem parts_four {w : World} {S : Nat → Prop} {g : Nat} {t : TypeId} {A1 A2 A3 A4 : Option Addr} {n1 n2 n3 n4 c1 c2 c3 c4 : Nat} {l1 l2 l3 l4 : List UInt8} (hB : Blk w g t #[.slice A1 n1 c1, .slice A2 n2 c2, .slice A3 n3 c3, .slice A4 n4 c4])
    (h1 : Rd w S A1 n1 c1 l1) (h2 : Rd w S A2 n2 c2 l2) (h3 : Rd w S A3 n3 c3 l3) (h4 : Rd w S A4 n4 c4 l4) : Lib.PartsAt w ⟨g, 0, none⟩ [.slice A1 n1 c1, .slice A2 n2 c2, .slice A3 n3 c3, .slice A4 n4 c4] [l1, l2, l3, l4] := by
  refine ⟨rfl, fun i v hi => ?_, fun i v l hv hl => ?_⟩
  · rw [add_none, Nat.zero_add]
    exact (hB.cell i).trans (by rw [← hi]; simp)
  · match i, hv, hl with
    | 0, hv, hl => cases hv; cases hl; exact holds_of_rd h1
    | 1, hv, hl => cases hv; cases hl; exact holds_of_rd h2
    | 2, hv, hl => cases hv; cases hl; exact holds_of_rd h3
    | 3, hv, hl => cases hv; cases hl; exact holds_of_rd h4
    | i + 4, hv, _ => simp at hv
theorem parts_one {w : World} {S : Nat → Prop} {g : Nat} {t : TypeId} {A1 : Option Addr} {n1 c1 : Nat} {l1 : List UInt8} (hB : Blk w g t #[.slice A1 n1 c1]) (h1 : Rd w S A1 n1 c1 l1) : Lib.PartsAt w ⟨g, 0, none⟩ [.slice A1 n1 c1] [l1] := by
  refine ⟨rfl, fun i v hi => ?_, fun i v l hv hl => ?_⟩
  · rw [add_none, Nat.zero_add]
    exact (hB.cell i).trans (by rw [← hi]; simp)
  · match i, hv, hl with
    | 0, hv, hl => cases hv; cases hl; exact holds_of_rd h1
    | i + 1, hv, _ => simp at hv
theorem rd_one {w : World} {g : Nat} {t : TypeId} {x : UInt8} {z : Int} (hB : Blk w g t #[.int .u8 z]) (hz : z = (x.toNat : Int)) : Rd w (fun _ => True) (some ⟨g, 0, none⟩) 1 1 [x] := by
  refine ⟨rfl, Nat.le_refl _, by simp [maxLen], (fun e => by cases e), fun _ => ⟨g, 0, rfl, trivial, hB.lt, fun i hi => ?_⟩⟩
  obtain rfl : i = 0 := by omega
  rw [hz] at hB
  exact (hB.cell 0).trans rfl
/-- The digest of a node. -/
theorem node_any (w : World) (hK : Kst w) (bit : Nat) (hbit : bit ≤ 1099511627776) {A B : Option Addr} {n m c d : Nat} {l r : List UInt8} (hl : Rd w (fun _ => True) A n c l) (hr : Rd w (fun _ => True) B m d r) (hll : l.length ≤ 1000000) (hrl : r.length ≤ 1000000) :
    Calls Tryd.prog 34 #[.int .i64 bit, .slice A n c, .slice B m d] w fun e w' => ∃ A m d, e = .returned (.slice A m d) ∧ Rd w' (fun i => w.heap.size ≤ i) A m d (Sha.sha (Ob.nodeB bit l r)) ∧ Below w.heap.size w w' := by
  have hld := Lib.hid hl
  have hrd := Lib.hid hr
  clear hl hr
  go_enter Tryd.func34, Tryd.ntmps34
  go_wp2_with fail
  obtain ⟨w1, hw1⟩ : ∃ x, w.alloc (.cells #[.int .u8 1] 5) = x := ⟨_, rfl⟩
  have hX : Hid (Blk w1 w.heap.size 5 #[.int .u8 1]) := by show Blk _ _ _ _; rw [← hw1]; exact Blk.new' rfl
  have hb1 : Hid (Below w.heap.size w w1) := by show Below _ _ _; rw [← hw1]; exact (Below.refl _ _).alloc (Nat.le_refl _) _
  rw [hw1]
  obtain ⟨xb, hxb⟩ : ∃ x, w.heap.size = x := ⟨_, rfl⟩
  have hxbd := Lib.hid hxb
  rw [hxb] at hX ⊢
  clear hw1 hxb
  refine (number_any w1 bit hbit).mono ?_
  rintro e w2 ⟨A2, n2, c2, rfl, hr2, hb2⟩
  have hr2d := Lib.hid hr2
  have hb2d : Hid (Below w1.heap.size w1 w2) := hb2
  have hb02 : Hid (Below w.heap.size w w2) := hb1.out.trans (hb2.mono hb1.out.size)
  have hX2 : Hid (Blk w2 xb 5 #[.int .u8 1]) := hX.out.below hb2 hX.out.lt
  clear hb2 hr2 hX
  go_wp2_with fail
  have hl2 := hld.out.fr (Fr.of_below (F := fun _ => False) hb02.out) (fun _ _ h => h)
  have hrr2 := hrd.out.fr (Fr.of_below (F := fun _ => False) hb02.out) (fun _ _ h => h)
  obtain ⟨w3, hw3⟩ : ∃ x, w2.alloc (.cells #[.slice (some ⟨xb, 0, none⟩) 1 1, .slice A2 n2 c2, .slice A n c, .slice B m d] 23) = x := ⟨_, rfl⟩
  have hY : Blk w3 w2.heap.size 23 #[.slice (some ⟨xb, 0, none⟩) 1 1, .slice A2 n2 c2, .slice A n c, .slice B m d] := by rw [← hw3]; exact Blk.new' rfl
  have hb3 : Below w2.heap.size w2 w3 := by rw [← hw3]; exact (Below.refl _ _).alloc (Nat.le_refl _) _
  rw [hw3]
  have hK3 : Kst w3 := hK.below (hb02.out.trans (hb3.mono hb02.out.size)) hK.pos
  have up3 := Fr.of_below (F := fun _ => False) hb3
  have hP := parts_four hY (rd_one (x := 1) (hX2.out.below hb3 hX2.out.lt) rfl) ((hr2d.out.fr up3 (fun _ _ h => h)).mono (fun _ _ _ => trivial)) (hl2.fr up3 (fun _ _ h => h)) (hrr2.fr up3 (fun _ _ h => h))
  have hb03 : Hid (Below w.heap.size w w3) := hb02.out.trans (hb3.mono hb02.out.size)
  obtain ⟨yb, hyb⟩ : ∃ x, w2.heap.size = x := ⟨_, rfl⟩
  rw [hyb] at hP ⊢
  clear hw3 hY hb3 up3 hl2 hrr2 hyb
  refine (sums_any w3 hK3 yb 0 4 4 _ _ rfl (by omega) hP (Nat.le_refl _) (by omega) (by simp [Lib.lens, Ob.num_len]; omega)).mono ?_
  rintro e w4 ⟨A4, n4, c4, rfl, hr4, hb4⟩
  have hfl : [[1], Ob.num bit, l, r].flatten = Ob.nodeB bit l r := by simp [Ob.nodeB]
  rw [hfl] at hr4
  go_wp2_with fail
  go_ret
  exact ⟨_, _, _, rfl, hr4.mono (fun i _ h => Nat.le_trans hb03.out.size h), hb03.out.trans (hb4.mono hb03.out.size)⟩
/-- The digest of a leaf whose content has a digest. -/
theorem leafd_any (w : World) (hK : Kst w) (k : List UInt8) (hk : k.length ≤ 1000000) {A : Option Addr} {n c : Nat} {l : List UInt8} (hl : Rd w (fun _ => True) A n c l) (hll : l.length ≤ 1000000) :
    Calls Tryd.prog 45 #[.string ⟨k.toArray⟩, .slice A n c] w fun e w' => ∃ A m d, e = .returned (.slice A m d) ∧ Rd w' (fun i => w.heap.size ≤ i) A m d (Sha.sha (Ob.leafB k l)) ∧ Below w.heap.size w w' := by
  have hsz : (⟨k.toArray⟩ : ByteArray).size = k.length := by simp [ByteArray.size]
  have hld := Lib.hid hl
  clear hl
  go_enter Tryd.func45, Tryd.ntmps45
  go_wp2_with fail
  obtain ⟨w1, hw1⟩ : ∃ x, w.alloc (.cells #[.int .u8 0] 5) = x := ⟨_, rfl⟩
  have hX : Hid (Blk w1 w.heap.size 5 #[.int .u8 0]) := by show Blk _ _ _ _; rw [← hw1]; exact Blk.new' rfl
  have hb1 : Hid (Below w.heap.size w w1) := by show Below _ _ _; rw [← hw1]; exact (Below.refl _ _).alloc (Nat.le_refl _) _
  rw [hw1]
  obtain ⟨xb, hxb⟩ : ∃ x, w.heap.size = x := ⟨_, rfl⟩
  have hxbd := Lib.hid hxb
  rw [hxb] at hX ⊢
  clear hw1 hxb
  refine (number_any w1 k.length (by omega)).mono ?_
  rintro e w2 ⟨A2, n2, c2, rfl, hr2, hb2⟩
  have hr2d := Lib.hid hr2
  have hb02' : Hid (Below w.heap.size w w2) := hb1.out.trans (hb2.mono hb1.out.size)
  have hX2' : Hid (Blk w2 xb 5 #[.int .u8 0]) := hX.out.below hb2 hX.out.lt
  clear hb2 hr2 hX hb1
  go_wp2_with ((with_reducible refine wpl_bytes_str rfl 9 23 5 (.tmp 9) rfl ?_ ?_ ?_ k ?_ (by simp only [maxLen]; omega) ?_); rfl; rfl; rfl; rfl; intro c9 w9 hd9 hg9)
  have hb9 : Below w2.heap.size w2 w9 := (Below.refl _ _).grown hg9 (Nat.le_refl _) (fun k hk => by cases hk)
  have hb02 : Hid (Below w.heap.size w w9) := hb02'.out.trans (hb9.mono hb02'.out.size)
  have hX2 : Hid (Blk w9 xb 5 #[.int .u8 0]) := hX2'.out.below hb9 hX2'.out.lt
  have hkr := hd9.rd
  have hr2d := Lib.hid (hr2d.out.fr (Fr.of_below (F := fun _ => False) hb9) (fun _ _ h => h))
  obtain ⟨kb, hkb⟩ : ∃ x, w2.heap.size = x := ⟨_, rfl⟩
  rw [hkb] at hkr ⊢
  clear hb9 hg9 hd9 hb02' hX2' hkb
  have hl2 := hld.out.fr (Fr.of_below (F := fun _ => False) hb02.out) (fun _ _ h => h)
  obtain ⟨w3, hw3⟩ : ∃ x, w9.alloc (.cells #[.slice (some ⟨xb, 0, none⟩) 1 1, .slice A2 n2 c2, .slice (some ⟨kb, 0, none⟩) k.length c9, .slice A n c] 23) = x := ⟨_, rfl⟩
  have hY : Blk w3 w9.heap.size 23 #[.slice (some ⟨xb, 0, none⟩) 1 1, .slice A2 n2 c2, .slice (some ⟨kb, 0, none⟩) k.length c9, .slice A n c] := by rw [← hw3]; exact Blk.new' rfl
  have hb3 : Below w9.heap.size w9 w3 := by rw [← hw3]; exact (Below.refl _ _).alloc (Nat.le_refl _) _
  rw [hw3]
  have hK3 : Kst w3 := hK.below (hb02.out.trans (hb3.mono hb02.out.size)) hK.pos
  have up3 := Fr.of_below (F := fun _ => False) hb3
  have hP := parts_four hY (rd_one (x := 0) (hX2.out.below hb3 hX2.out.lt) rfl) ((hr2d.out.fr up3 (fun _ _ h => h)).mono (fun _ _ _ => trivial)) ((hkr.fr up3 (fun _ _ h => h)).mono (fun _ _ _ => trivial)) (hl2.fr up3 (fun _ _ h => h))
  have hb03 : Hid (Below w.heap.size w w3) := hb02.out.trans (hb3.mono hb02.out.size)
  obtain ⟨yb, hyb⟩ : ∃ x, w9.heap.size = x := ⟨_, rfl⟩
  rw [hyb] at hP ⊢
  clear hw3 hY hb3 up3 hl2 hkr hyb
  refine (sums_any w3 hK3 yb 0 4 4 _ _ rfl (by omega) hP (Nat.le_refl _) (by omega) (by simp [Lib.lens, Ob.num_len]; omega)).mono ?_
  rintro e w4 ⟨A4, n4, c4, rfl, hr4, hb4⟩
  have hfl : [[0], Ob.num k.length, k, l].flatten = Ob.leafB k l := by simp [Ob.leafB]
  rw [hfl] at hr4
  go_wp2_with fail
  go_ret
  exact ⟨_, _, _, rfl, hr4.mono (fun i _ h => Nat.le_trans hb03.out.size h), hb03.out.trans (hb4.mono hb03.out.size)⟩
/-- The digest of a leaf. -/
theorem leaf_any (w : World) (hK : Kst w) (k : List UInt8) (hk : k.length ≤ 1000000) {A : Option Addr} {n c : Nat} {l : List UInt8} (hl : Rd w (fun _ => True) A n c l) (hll : l.length ≤ 1000000) :
    Calls Tryd.prog 25 #[.string ⟨k.toArray⟩, .slice A n c] w fun e w' => ∃ A m d, e = .returned (.slice A m d) ∧ Rd w' (fun i => w.heap.size ≤ i) A m d (Ob.leafH k l) ∧ Below w.heap.size w w' := by
  have hld := Lib.hid hl
  clear hl
  go_enter Tryd.func25, Tryd.ntmps25
  go_wp2_with fail
  obtain ⟨w1, hw1⟩ : ∃ x, w.alloc (.cells #[.slice A n c] 23) = x := ⟨_, rfl⟩
  have hY : Blk w1 w.heap.size 23 #[.slice A n c] := by rw [← hw1]; exact Blk.new' rfl
  have hb1 : Below w.heap.size w w1 := by rw [← hw1]; exact (Below.refl _ _).alloc (Nat.le_refl _) _
  rw [hw1]
  have hK1 : Kst w1 := hK.below hb1 hK.pos
  have hP := parts_one hY (hld.out.fr (Fr.of_below (F := fun _ => False) hb1) (fun _ _ h => h))
  have hb1d := Lib.hid hb1
  obtain ⟨yb, hyb⟩ : ∃ x, w.heap.size = x := ⟨_, rfl⟩
  rw [hyb] at hP ⊢
  have hybd := Lib.hid hyb
  clear hw1 hY hb1 hyb
  refine (sums_any w1 hK1 yb 0 1 1 _ _ rfl (by omega) hP (Nat.le_refl _) (by omega) (by simp [Lib.lens]; omega)).mono ?_
  rintro e w2 ⟨A2, n2, c2, rfl, hr2, hb2⟩
  have hfl : [l].flatten = l := by simp
  rw [hfl] at hr2
  have hr2d := Lib.hid hr2
  have hK2 : Kst w2 := hK1.below hb2 hK1.pos
  have hb02 : Hid (Below w.heap.size w w2) := hb1d.out.trans (hb2.mono hb1d.out.size)
  clear hb2 hr2 hP hfl
  go_wp2_with fail
  refine (leafd_any w2 hK2 k hk (hr2d.out.mono (fun _ _ _ => trivial)) (by rw [Sha.length_sha]; decide)).mono ?_
  rintro e w3 ⟨A3, n3, c3, rfl, hr3, hb3⟩
  go_wp2_with fail
  go_ret
  exact ⟨_, _, _, rfl, hr3.mono (fun i _ h => by have h5 := hb02.out.size; have h6 := hybd.out; omega), hb02.out.trans (hb3.mono hb02.out.size)⟩
end Go.Proofs.YthoaenpbmmjokaaDoor

/-
  The encoding of a command, walked: write, Encode.
-/
import Derived.Test.YtajohibeoicepaaDoorSyWr
namespace Sy
theorem wsz_get : ∀ {l : List Wt} {k : Nat} {y : Wt}, l[k]? = some y → y.object.length + y.delta.length + 20 ≤ wsz l
  | [], _, _, h => by simp at h
  | x :: xs, 0, y, h => by
    simp at h
    subst h
    simp [wsz]
  | x :: xs, k + 1, y, h => by
    have := wsz_get (l := xs) (k := k) (by simpa using h)
    simp only [wsz]; omega
theorem wsz_len : ∀ l : List Wt, 20 * l.length ≤ wsz l
  | [] => Nat.le_refl _
  | x :: xs => by
    have := wsz_len xs
    simp only [wsz, List.length_cons]; omega
theorem wts_take {l : List Wt} {k : Nat} {y : Wt} (h : l[k]? = some y) : wts (l.take (k + 1)) = wts (l.take k) ++ bts y.object ++ bts y.delta := by
  obtain ⟨hk, rfl⟩ := List.getElem?_eq_some_iff.1 h
  rw [List.take_succ_eq_append_getElem hk, wts_append]
  simp [wts]
end Sy
namespace Go.Proofs.YtajohibeoicepaaDoor
open Go.RowKit Go.Pl
theorem wlen {x : Sy.Cm} (hz : Sy.csz x ≤ 30000000) (k : Nat) : (Sy.head x ++ Sy.wts (x.writes.take k)).length ≤ 30000000 := by
  have h1 := Sy.length_head x
  have h2 := Sy.length_wts (x.writes.take k)
  have h3 := Sy.wsz_take k x.writes
  simp only [Sy.csz, List.length_append] at *
  omega
set_option maxRecDepth 100000 in
theorem cwrite_any {B G : Nat} (x : Sy.Cm) (w : World) {A C : Option Addr} {n c m d : Nat} (hBw : B ≤ w.heap.size) (hW : Wk w (fun i => B ≤ i) G []) (hx : RdE lWt w (fun i => i < B) A n c x.writes) (hz : Sy.csz x ≤ 30000000) :
    Calls Tryd.prog 49 #[.pointer (some ⟨G, 0, none⟩), .agg #[.int .i64 x.client, .int .i64 x.seq, .int .i64 x.kind, .slice A n c, .int .i64 x.replica, .slice C m d]] w fun e w' => e = .returned undef ∧ Wk w' (fun i => B ≤ i) G (Sy.bare x) ∧ Fr (fun i => B ≤ i) w w' := by
  have hBd := Lib.hid hBw
  have hxd := Lib.hid hx
  have hnl := Lib.hid hx.len
  have hWd := Lib.hid hW
  have hzd := Lib.hid hz
  clear hBw hx hW hz
  go_enter Tryd.func49, Tryd.ntmps49
  go_wp2_with fail
  obtain ⟨w1, hw1⟩ : ∃ w1, w.alloc (.cells #[.int .i64 x.client, .int .i64 x.seq, .int .i64 x.kind, .slice A n c, .int .i64 x.replica, .slice C m d] 39) = w1 := ⟨_, rfl⟩
  have hf0 : Fr (fun _ => False) w w1 := by rw [← hw1]; exact (Fr.refl (fun _ => False) w).alloc _
  have hX : Blk w1 w.heap.size 39 #[.int .i64 x.client, .int .i64 x.seq, .int .i64 x.kind, .slice A n c, .int .i64 x.replica, .slice C m d] := by rw [← hw1]; exact Blk.new' rfl
  have hs1 : w1.heap.size = w.heap.size + 1 := by rw [← hw1]; exact Array.size_push _
  obtain ⟨X, hX0⟩ : ∃ X, w.heap.size = X := ⟨_, rfl⟩
  have hW1 : Wk w1 (fun i => B ≤ i ∧ i ≠ X) G [] := (hWd.out.mono (fun i hi h => ⟨h, by omega⟩)).fr hf0 (fun _ _ h => h)
  have hf1 : Hid (Fr (fun i => B ≤ i ∧ i ≠ X) w w1) := hf0.mono (fun _ h => h.elim)
  rw [hw1]
  rw [hX0] at hX hs1 hBd ⊢
  have hX0d := Lib.hid hX0
  have hs1d := Lib.hid hs1
  have hXd := Lib.hid hX
  have hK1 : Hid (∀ i, w1.heap.size ≤ i → (B ≤ i ∧ i ≠ X)) := fun i hi => by have := hBd.out; omega
  clear hX0 hw1 hX hs1 hf0
  refine (wint_k x.client w1 hK1.out hW1 (by simp)).mono ?_
  rintro e w2 ⟨rfl, hW2, hf2⟩
  have hf2d : Hid (Fr (fun i => B ≤ i ∧ i ≠ X) w1 w2) := hf2
  have hW2d := Lib.hid hW2
  have hX2 : Blk w2 X _ _ := hXd.out.fr hf2 (fun h => h.2 rfl)
  clear hf2 hW2 hW1
  have c1 : w2.cell? ⟨X, 1, none⟩ = some (.int .i64 x.seq) := (hX2.cell 1).trans rfl
  clear hX2
  go_wp2_with fail
  clear c1
  refine (wint_k x.seq w2 (fun i hi => hK1.out i (Nat.le_trans hf2d.out.size hi)) hW2d.out (by have := Wire.length_int x.client; simp; omega)).mono ?_
  rintro e w3 ⟨rfl, hW3, hf3⟩
  have hf3d : Hid (Fr (fun i => B ≤ i ∧ i ≠ X) w1 w3) := hf2d.out.trans hf3 (fun _ h => .inl h)
  have hW3d := Lib.hid hW3
  have hX3 : Blk w3 X _ _ := hXd.out.fr hf3d.out (fun h => h.2 rfl)
  clear hf3 hW3 hf2d hW2d
  have c2 : w3.cell? ⟨X, 2, none⟩ = some (.int .i64 x.kind) := (hX3.cell 2).trans rfl
  clear hX3
  go_wp2_with fail
  clear c2
  refine (wint_k x.kind w3 (fun i hi => hK1.out i (Nat.le_trans hf3d.out.size hi)) hW3d.out (by have := Wire.length_int x.client; have := Wire.length_int x.seq; simp; omega)).mono ?_
  rintro e w4 ⟨rfl, hW4, hf4⟩
  have hf4d : Hid (Fr (fun i => B ≤ i ∧ i ≠ X) w1 w4) := hf3d.out.trans hf4 (fun _ h => .inl h)
  have hW4d := Lib.hid hW4
  have hX4 : Blk w4 X _ _ := hXd.out.fr hf4d.out (fun h => h.2 rfl)
  clear hf4 hW4 hf3d hW3d
  have c3 : w4.cell? ⟨X, 3, none⟩ = some (.slice A n c) := (hX4.cell 3).trans rfl
  clear hX4
  go_wp2_with fail
  clear c3
  refine (wuint_k (BitVec.ofNat 64 n) w4 (fun i hi => hK1.out i (Nat.le_trans hf4d.out.size hi)) hW4d.out (by have := Wire.length_int x.client; have := Wire.length_int x.seq; have := Wire.length_int x.kind; simp; omega)).mono ?_
  rintro e w5 ⟨rfl, hW5, hf5⟩
  have hf5d : Hid (Fr (fun i => B ≤ i ∧ i ≠ X) w1 w5) := hf4d.out.trans hf5 (fun _ h => .inl h)
  have hW5d : Hid (Wk w5 (fun i => B ≤ i ∧ i ≠ X) G (Sy.head x)) := by
    show Wk _ _ _ _
    have e : Sy.head x = [] ++ Wire.int x.client.val ++ Wire.int x.seq.val ++ Wire.int x.kind.val ++ Wire.uint (BitVec.ofNat 64 n) := by rw [Sy.head, ← hnl.out, List.nil_append]
    rw [e]; exact hW5
  have hX5 : Blk w5 X _ _ := hXd.out.fr hf5d.out (fun h => h.2 rfl)
  clear hf5 hW5 hf4d hW4d
  have c3 : w5.cell? ⟨X, 3, none⟩ = some (.slice A n c) := (hX5.cell 3).trans rfl
  clear hX5
  go_wp2_with fail
  clear c3
  have hnm : n ≤ 30000000 := by have := Sy.wsz_len x.writes; have := hnl.out; have := hzd.out; simp only [Sy.csz] at *; omega
  go_loopw [27] (fun t wr => ∃ k : Nat, k ≤ n ∧ t = .int .i64 k ∧ Wk wr (fun i => B ≤ i ∧ i ≠ X) G (Sy.head x ++ Sy.wts (x.writes.take k)) ∧ Fr (fun i => B ≤ i ∧ i ≠ X) w1 wr) (fun t _ => n - (intOf t).toNat)
  case atStart => exact ⟨0, Nat.zero_le _, rfl, by simpa [Sy.wts] using hW5d.out, hf5d.out⟩
  case round =>
    obtain ⟨k, hk, rfl, hWr, hfr⟩ := hrel
    have hWrd := Lib.hid hWr
    have hfrd := Lib.hid hfr
    clear hWr hfr hW5d hf5d
    by_cases hlt : k < n
    · have hkl : k < x.writes.length := by have := hnl.out; omega
      obtain ⟨y, hy⟩ : ∃ y, x.writes[k]? = some y := ⟨_, List.getElem?_eq_getElem hkl⟩
      have hbw : Fr (fun i => B ≤ i) w wr := (hf1.out.trans hfrd.out (fun i h => .inl h)).mono (fun i h => .inl h.1)
      obtain ⟨b, o, u, rfl, hbB, hbl, ⟨A2, n2, c2, rfl, hr2⟩, hcell⟩ := (hxd.out.fr hbw (fun i h => by omega)).get hy
      have e0 : wr.cell? ⟨b, o + k * 2, none⟩ = some (.string ⟨y.object.toArray⟩) := hcell 0 _ rfl
      have e1 : wr.cell? ⟨b, o + k * 2 + 1, none⟩ = some (.slice A2 n2 c2) := hcell 1 _ rfl
      have hyd := Lib.hid hy
      have hr2d := Lib.hid hr2
      have hl2 := Lib.hid hr2.len
      have hkd := Lib.hid hlt
      clear hcell hbw hr2 hy hkl hbB hbl
      go_wp2_with fail
      clear e0 e1
      obtain ⟨w6, hw6⟩ : ∃ w6, wr.alloc (.cells #[.string ⟨y.object.toArray⟩, .slice A2 n2 c2] 50) = w6 := ⟨_, rfl⟩
      have hf0 : Fr (fun _ => False) wr w6 := by rw [← hw6]; exact (Fr.refl (fun _ => False) wr).alloc _
      have hY : Blk w6 wr.heap.size 50 #[.string ⟨y.object.toArray⟩, .slice A2 n2 c2] := by rw [← hw6]; exact Blk.new' rfl
      have hs6 : w6.heap.size = wr.heap.size + 1 := by rw [← hw6]; exact Array.size_push _
      obtain ⟨Y, hY0⟩ : ∃ Y, wr.heap.size = Y := ⟨_, rfl⟩
      have hYX : X < Y := by have := hfrd.out.size; have := hs1d.out; omega
      have hW6 : Wk w6 (fun i => B ≤ i ∧ i ≠ X ∧ i ≠ Y) G (Sy.head x ++ Sy.wts (x.writes.take k)) := (hWrd.out.mono (fun i hi h => ⟨h.1, h.2, by omega⟩)).fr hf0 (fun _ _ h => h)
      have hf6 : Hid (Fr (fun i => B ≤ i ∧ i ≠ X) w1 w6) := hfrd.out.trans hf0 (fun _ h => h.elim)
      have hX6 : Blk w6 X 39 _ := hXd.out.fr hf6.out (fun h => h.2 rfl)
      have hr6 : Hid (Rd w6 (fun i => i < B) A2 n2 c2 y.delta) := hr2d.out.fr hf0 (fun _ _ h => h)
      rw [hw6]
      rw [hY0] at hY hs6 ⊢
      have hYd := Lib.hid hY
      have hX6d := Lib.hid hX6
      have hYXd := Lib.hid hYX
      have hs6d := Lib.hid hs6
      have hK6 : Hid (∀ i, w6.heap.size ≤ i → (B ≤ i ∧ i ≠ X ∧ i ≠ Y)) := fun i hi => by have := hBd.out; omega
      have hlen : Hid ((Sy.head x ++ Sy.wts (x.writes.take k)).length ≤ 30000000) := wlen hzd.out k
      have hyl : Hid (y.object.length + y.delta.length ≤ 30000000) := by have := Sy.wsz_get hyd.out; have := hzd.out; show _ ≤ _; simp only [Sy.csz] at *; omega
      clear hw6 hf0 hY0 hr2d hY hX6 hYX hs6
      refine (wtext_k (B := B) y.object w6 hK6.out (by have := hBd.out; have := hYXd.out; have := hs6d.out; omega) (fun i h => h.1) (fun i hi hn cs he => by
        by_cases h1 : i = X
        · subst h1; rw [hX6d.out] at he; cases he
        · by_cases h2 : i = Y
          · subst h2; rw [hYd.out] at he; cases he
          · exact hn ⟨hi, h1, h2⟩) hW6 (by have := hlen.out; have := hyl.out; omega)).mono ?_
      rintro e w7 ⟨rfl, hW7, hf7⟩
      have hf7d : Hid (Fr (fun i => B ≤ i ∧ i ≠ X ∧ i ≠ Y) w6 w7) := hf7
      have hW7d := Lib.hid hW7
      have hY7 : Blk w7 Y _ _ := hYd.out.fr hf7 (fun h => h.2.2 rfl)
      have e1 : w7.cell? ⟨Y, 1, none⟩ = some (.slice A2 n2 c2) := (hY7.cell 1).trans rfl
      clear hf7 hW7 hW6 hY7
      go_wp2_with fail
      clear e1
      refine (wbytes_k y.delta w7 (fun i => i < B) (fun i h h' => by have := h'.1; omega) (hr6.out.fr hf7d.out (fun i h h' => by have := h'.1; omega)) (fun i hi => hK6.out i (Nat.le_trans hf7d.out.size hi)) hW7d.out (by
        have := hlen.out; have := hyl.out; have := Sy.length_bts y.object; simp only [List.length_append] at *; omega)).mono ?_
      rintro e w8 ⟨rfl, hW8, hf8⟩
      go_wp2_with fail
      go_roundw
      case rel =>
        refine ⟨k + 1, hlt, by go_num, ?_, (hf6.out.trans hf7d.out (fun i h => .inl ⟨h.1, h.2.1⟩)).trans hf8 (fun i h => .inl ⟨h.1, h.2.1⟩)⟩
        have e : Sy.head x ++ Sy.wts (x.writes.take (k + 1)) = Sy.head x ++ Sy.wts (x.writes.take k) ++ Sy.bts y.object ++ Sy.bts y.delta := by
          rw [Sy.wts_take hyd.out]; simp only [List.append_assoc]
        rw [e]
        exact hW8.mono (fun i _ h => ⟨h.1, h.2.1⟩)
      case measure => simp [intOf]; omega
    · have hkn : k = n := by omega
      have hX9 : Blk wr X _ _ := hXd.out.fr hfrd.out (fun h => h.2 rfl)
      have c4 : wr.cell? ⟨X, 4, none⟩ = some (.int .i64 x.replica) := (hX9.cell 4).trans rfl
      have hknd := Lib.hid hkn
      clear hX9 hkn
      go_wp2_with fail
      clear c4
      refine (wint_k x.replica wr (fun i hi => hK1.out i (Nat.le_trans hfrd.out.size hi)) hWrd.out (by have := wlen hzd.out k; omega)).mono ?_
      rintro e w6 ⟨rfl, hW6, hf6⟩
      go_wp2_with fail
      go_returns
      refine ⟨rfl, ?_, ((hf1.out.trans hfrd.out (fun i h => .inl h)).trans hf6 (fun i h => .inl h)).mono (fun i h => .inl h.1)⟩
      have e : x.writes.take k = x.writes := by rw [hknd.out, hnl.out]; exact List.take_length
      rw [e] at hW6
      exact hW6.mono (fun i _ h => h.1)
set_option maxRecDepth 100000 in
theorem cenc_any (x : Sy.Cm) (w : World) {A C : Option Addr} {n c m d : Nat} (hx : RdE lWt w (fun i => i < w.heap.size) A n c x.writes) (ht : Rd w (fun i => i < w.heap.size) C m d x.tag) (hz : Sy.csz x ≤ 30000000) :
    Calls Tryd.prog 35 #[.agg #[.int .i64 x.client, .int .i64 x.seq, .int .i64 x.kind, .slice A n c, .int .i64 x.replica, .slice C m d]] w fun e w' =>
      ∃ D k, e = .returned (.slice D (Sy.enc x).length k) ∧ Rd w' (fun i => w.heap.size ≤ i) D (Sy.enc x).length k (Sy.enc x) ∧ Below w.heap.size w w' := by
  go_enter Tryd.func35, Tryd.ntmps35
  go_wp2_with fail
  obtain ⟨w1, hw1⟩ : ∃ w1, (w.alloc (.cells #[.int .i64 x.client, .int .i64 x.seq, .int .i64 x.kind, .slice A n c, .int .i64 x.replica, .slice C m d] 39)).alloc (.cells #[.slice none 0 0] 54) = w1 := ⟨_, rfl⟩
  have hf1 : Below w.heap.size w w1 := by rw [← hw1]; exact ((Below.refl _ w).alloc (Nat.le_refl _) _).alloc (by simp) _
  have hX : Blk w1 w.heap.size 39 #[.int .i64 x.client, .int .i64 x.seq, .int .i64 x.kind, .slice A n c, .int .i64 x.replica, .slice C m d] := by rw [← hw1]; exact (Blk.new' rfl).alloc _
  have hG : Blk w1 (w.heap.size + 1) 54 #[.slice none 0 0] := by rw [← hw1]; exact Blk.new' (by simp)
  have hs1 : w1.heap.size = w.heap.size + 1 + 1 := by rw [← hw1]; exact (Array.size_push _).trans (congrArg (· + 1) (Array.size_push _))
  have hx1 := hx.fr (Fr.of_below (F := fun _ => False) hf1) (fun _ _ h => h)
  have ht1 := ht.fr (Fr.of_below (F := fun _ => False) hf1) (fun _ _ h => h)
  rw [hw1]
  have hX1 := Lib.hid hX
  have hzd := Lib.hid hz
  have hx1d := Lib.hid hx1
  have ht1d := Lib.hid ht1
  have hf1d := Lib.hid hf1
  obtain ⟨B, hB⟩ : ∃ B, w.heap.size + 1 = B := ⟨_, rfl⟩
  have hWw : Wk w1 (fun i => B ≤ i) B [] := ⟨Nat.le_refl _, _, hB ▸ hG, World.ownsRow_nil _ _ _ _, fun g hg => by cases hg⟩
  have hBd := Lib.hid hB
  have hs1d := Lib.hid hs1
  rw [hB]
  clear hw1 hX hG hs1 hx1 ht1 hx ht hf1 hz hB
  refine (cwrite_any (B := B) x w1 (by have := hBd.out; have := hs1d.out; omega) hWw (hx1d.out.mono (fun i _ h => by have := hBd.out; omega)) hzd.out).mono ?_
  rintro e w2 ⟨rfl, hW2, hf2⟩
  have hf2d := Lib.hid hf2
  have hW2d := Lib.hid hW2
  have hX2 : Blk w2 w.heap.size _ _ := hX1.out.fr hf2 (fun h => by have := hBd.out; omega)
  have c5 : w2.cell? ⟨w.heap.size, 5, none⟩ = some (.slice C m d) := (hX2.cell 5).trans rfl
  clear hX2 hW2 hf2 hWw
  go_wp2_with fail
  clear c5
  refine (wbytes_k x.tag w2 (fun i => i < w.heap.size) (fun i h h' => by have := hBd.out; omega) (ht1d.out.fr hf2d.out (fun i h h' => by have := hBd.out; omega)) (fun i hi => by have := hBd.out; have := hs1d.out; have := hf2d.out.size; omega) hW2d.out (by
    have := hzd.out; have := Sy.length_bare x; simp only [Sy.csz] at *; omega)).mono ?_
  rintro e w3 ⟨rfl, hW3, hf3⟩
  have hf3d := Lib.hid hf3
  have hW3d : Hid (Wk w3 (fun i => B ≤ i) B (Sy.enc x)) := hW3
  clear hW3 hf3
  go_wp2_with fail
  refine (wdata_k w3 hW3d.out (by have := hzd.out; have := Sy.length_enc x; omega)).mono ?_
  rintro e w4 ⟨A4, c4, rfl, ho4, hb4⟩
  go_wp2_with fail
  go_returns
  have h3 : Below w.heap.size w w3 := hf1d.out.trans ((hf2d.out.trans hf3d.out (fun i h => .inl h)).below (fun i h => by have := hBd.out; omega) (by have := hs1d.out; omega))
  refine ⟨A4, c4, rfl, (own_rd ho4).mono (fun i _ h => Nat.le_trans h3.size (own_lt ho4 i h).1), h3.trans (hb4.mono h3.size)⟩
end Go.Proofs.YtajohibeoicepaaDoor

/-
  A hash's state in memory; New, Len, Write.
-/
import Derived.Test.YtajohibeoicepaaDoorProg
import Derived.Test.YtajohibeoicepaaDoorBlk
import Derived.Test.YtajohibeoicepaaDoorOrd
import Derived.Test.YtajohibeoicepaaDoorPart
import Derived.Deep.QuietTactic
import Derived.BigQuiet
import Derived.KernelRfl
import Derived.Handy
namespace Go.Proofs.YtajohibeoicepaaDoor
open Go.RowKit Go.Pl
/-- The cells of a state. -/
def sta (u : Sha.S8) (v : Value) (n : Nat) : Array Value :=
  #[.int .u32 (n32 u.a), .int .u32 (n32 u.b), .int .u32 (n32 u.c), .int .u32 (n32 u.d), .int .u32 (n32 u.e), .int .u32 (n32 u.f), .int .u32 (n32 u.g), .int .u32 (n32 u.h), v, .int .i64 (n : Int)]
/-- The constants lie where they were laid. -/
def Kst (w : World) : Prop := ∀ t, t < 64 → w.cell? ⟨0, t, none⟩ = some (.int .u32 (n32 (Sha.kw t)))
theorem Kst.pos {w : World} (h : Kst w) : 0 < w.heap.size := by
  have := World.block_lt_of_cell? w _ (h 0 (by omega))
  simpa using this
theorem Kst.fr {F : Nat → Prop} {w w' : World} (h : Kst w) (hf : Fr F w w') (hn : ¬ F 0) : Kst w' := fun t ht => (hf.cell (p := ⟨_, t, none⟩) h.pos hn).trans (h t ht)
theorem Kst.below {B : Nat} {w w' : World} (h : Kst w) (hb : Below B w w') (hB : 0 < B) : Kst w' := fun t ht => (hb.cell (p := ⟨_, t, none⟩) hB).trans (h t ht)
/-- At p, no lower than B, lies a state to which m has been written; the rest lies in block r. -/
def StateAt (w : World) (B p : Nat) (m : List UInt8) (r : Option Nat) : Prop :=
  B ≤ p ∧ ∃ v, r = v.ownBlock ∧ Blk w p 86 (sta (Sha.words m) v m.length) ∧ w.ownsRow B 5 1 v (Sha.rest m).length ((Sha.rest m).map u8v)
/-- What a write leaves. -/
def Wrote (B p : Nat) (m : List UInt8) (r : Option Nat) (w w' : World) : Prop :=
  ∃ r', StateAt w' B p m r' ∧ Fr (fun i => i = p ∨ r = some i) w w' ∧ (r' = r ∨ ∀ g, r' = some g → w.heap.size ≤ g)
/-- The state while blocks are taken from L: the slice of address A, length n and capacity c is what is left. -/
def LoopAt (w : World) (p N : Nat) (u : Sha.S8) (L : List UInt8) (r : Option Nat) (A : Option Addr) (n c : Nat) (wr : World) : Prop :=
  ∃ j v0, 64 * j ≤ L.length ∧ Rd wr (fun i => i ≠ p ∧ r ≠ some i) A n c (L.drop (64 * j)) ∧ Blk wr p 86 (sta (Sha.blocks j u L) v0 N) ∧ Fr (fun i => i = p ∨ r = some i) w wr
theorem blocks_succ (j : Nat) (u : Sha.S8) (L : List UInt8) : Sha.blocks (j + 1) u L = Sha.compress (Sha.blocks j u L) ((L.drop (64 * j)).take 64) := by
  rw [Sha.blocks_add]; rfl
theorem st_one (s : Sha.S8) : ∀ v ∈ (st s).toList, v.oneCell' = true := by
  intro v hv
  simp only [st, List.mem_cons, List.not_mem_nil, or_false] at hv
  rcases hv with rfl | rfl | rfl | rfl | rfl | rfl | rfl | rfl <;> rfl
theorem own_ne {w1 : World} {v v2 : Value} {p : Nat} (hb : v2.ownBlock = v.ownBlock ∨ v2.ownBlock = some w1.heap.size) (h : v.ownBlock ≠ some p) (hp : p < w1.heap.size) : v2.ownBlock ≠ some p := by
  rcases hb with e | e
  · rw [e]; exact h
  · rw [e]; exact fun e => by have := Option.some.inj e; omega
theorem own_base {w : World} {base : Nat} {e : TypeId} {size n g : Nat} {v : Value} {xs : List Value} (h : w.ownsRow base e size v n xs) (hg : v.ownBlock = some g) : base ≤ g := by
  rcases h.2 with ⟨rfl, _⟩ | ⟨g', cap, cur, rfl, hb, _⟩
  · cases hg
  · have : g' = g := Option.some.inj hg
    omega
theorem own_set {w : World} {base : Nat} {e : TypeId} {size n p k : Nat} {v u : Value} {xs : List Value} (h : w.ownsRow base e size v n xs) (hp : v.ownBlock ≠ some p) : (w.setCell ⟨p, k, none⟩ u).ownsRow base e size v n xs :=
  own_fr h ((Fr.refl (fun i => i = p) w).setCell (.inl rfl) u) (fun _ e h => hp (e.trans (congrArg some h)))
theorem wrote {B p : Nat} {m : List UInt8} {r : Option Nat} {w w' : World} (v : Value) (h1 : B ≤ p) (h2 : Blk w' p 86 (sta (Sha.words m) v m.length)) (h3 : w'.ownsRow B 5 1 v (Sha.rest m).length ((Sha.rest m).map u8v))
    (h4 : Fr (fun i => i = p ∨ r = some i) w w') (h5 : v.ownBlock = r ∨ ∀ g, v.ownBlock = some g → w.heap.size ≤ g) : Wrote B p m r w w' := ⟨_, ⟨h1, v, rfl, h2, h3⟩, h4, h5⟩
set_option maxRecDepth 100000 in
set_option maxHeartbeats 4000000 in
theorem write_any {B p : Nat} {m bs : List UInt8} {r : Option Nat} {A : Option Addr} {n c : Nat} (w : World) (hB : 0 < B) (hK : Kst w) (hS : StateAt w B p m r) (hA : Rd w (fun i => i ≠ p ∧ r ≠ some i) A n c bs) (hl : m.length + bs.length ≤ 70368744177664) :
    Calls Tryd.prog 51 #[.pointer (some ⟨p, 0, none⟩), .slice A n c] w fun e w' => e = .returned undef ∧ Wrote B p (m ++ bs) r w w' := by
  obtain ⟨hBp, v, hr, hblk, hown⟩ := hS
  obtain ⟨R, cr, rfl, hrd, hR⟩ := own_slice hown
  have hR' : Hid (R = _) := hR
  clear hR
  obtain rfl := hA.len
  have hLm : (Sha.rest m).length < 64 := by rw [Sha.length_rest]; omega
  have hmn : (m ++ bs).length = m.length + bs.length := List.length_append
  have hW := Sha.words_append m bs
  have hT := Sha.rest_append m bs
  generalize hq : Sha.rest m = q at *
  generalize hu : Sha.words m = u at *
  have hrp : r ≠ some p := by rw [hr]; exact own_blk_ne hown hblk (by decide)
  subst hr
  have d8 : w.cell? ⟨p, 8, none⟩ = some (.slice R q.length cr) := (hblk.cell 8).trans rfl
  have d9 : w.cell? ⟨p, 9, none⟩ = some (.int .i64 (m.length : Int)) := (hblk.cell 9).trans rfl
  have f9 := hblk.frozen 9
  have hle : bs.length ≤ c := hA.le
  have hnl : (bs.length : Int) ≤ 70368744177664 := by omega
  have hml : (m.length : Int) ≤ 70368744177664 := by omega
  obtain ⟨k, hk⟩ : ∃ k : Nat, 64 - (q.length : Int) = (k : Int) := ⟨64 - q.length, by omega⟩
  have hblk1 := hblk.set_ 9 (.int .i64 ((m.length : Int) + (bs.length : Int)))
  have hfr1 : Fr (fun i => i = p) w (w.setCell ⟨p, 9, none⟩ (.int .i64 ((m.length : Int) + (bs.length : Int)))) := (Fr.refl (fun i => i = p) w).setCell (.inl rfl) _
  by_cases hshort : 0 < q.length ∧ bs.length < k
  · obtain ⟨h0, hkn⟩ := hshort
    go_enter Tryd.func51, Tryd.ntmps51
    go_wp2_with fail
    generalize hw1 : w.setCell ⟨p, 9, none⟩ (.int .i64 ((m.length : Int) + (bs.length : Int))) = w1 at *
    have e8 : w1.cell? ⟨p, 8, none⟩ = some (.slice R q.length cr) := (hblk1.cell 8).trans rfl
    refine wp_region_ord [0, 1, 2, 3, 5, 6, 7] [4] [8, 9, 10, 11] (by kernel_rfl) (by kernel_rfl) (fun _ _ _ _ _ h => h) ?_
    simp only [ordPick, Option.toList_some, List.cons_append, List.nil_append, List.getElem?_cons_succ, List.getElem?_cons_zero]
    repeat (go_big_quiet_step (fail))
    refine wpQuiet_nil ?_
    repeat (go_big_quiet_step (fail))
    refine wpQuiet_nil ?_
    have a1 : w1.drew.ownsRow B 5 1 (.slice R q.length cr) q.length (q.map u8v) := own_fr hown hfr1.drew (fun g e h => hrp (e.trans (congrArg some h)))
    have a2 : Bytes w1.drew w1.drew.heap.size (.slice A bs.length c) bs := (hA.fr hfr1.drew (fun i hi => hi.1)).all
    have a3 : B ≤ w1.drew.heap.size := by have := hblk1.lt; show B ≤ w1.heap.size; omega
    have a4 : q.length + bs.length ≤ 140737488355328 := by omega
    have a5 := hblk1.drew
    have a6 := hA.fr hfr1.drew (fun i hi => hi.1)
    go_wp2_with (first
      | ((with_reducible refine wpl_append_sl _ rfl (.tmp 33) (.tmp 36) 23 rfl B 5 ?_ ?_ _ ?_ q a1 _ _ ?_ bs a2 a4 a3 (q.length + bs.length) ?_ ?_); rfl; kernel_rfl; rfl; rfl; exact List.length_append; intro R2 c2 w2 ho2 hg2 hb2; have b2 := a5.grown hg2 (fun e => hrp e.symm); have e82 : w2.cell? ⟨p, 8, none⟩ = some (.slice R q.length cr) := (b2.cell 8).trans rfl; have f82 := b2.frozen 8;
              have hfr3 : Fr (fun i => i = p ∨ (Value.slice R q.length cr).ownBlock = some i) w (w2.setCell ⟨p, 8, none⟩ (.slice R2 (q.length + bs.length) c2)) := ((hfr1.mono (fun i h => .inl (.inl h))).drew.grown hg2 (fun g h => .inl (.inr h))).setCell (.inl (.inl rfl)) _;
              have a63 : Rd (w2.setCell ⟨p, 8, none⟩ (.slice R2 (q.length + bs.length) c2)) (fun i => i ≠ p ∧ (Value.slice R q.length cr).ownBlock ≠ some i) A bs.length c bs := hA.fr hfr3 (fun i hi h => h.elim hi.1 hi.2))
      | ((with_reducible refine wpl_slice_from rfl 23 (.tmp 40) (.tmp 41) rfl 5 ?_ ?_ (fun i => i ≠ p ∧ (Value.slice R q.length cr).ownBlock ≠ some i) A bs.length c bs a63 ?_ .i64 bs.length ?_ ?_ ?_); rfl; kernel_rfl; rfl; rfl; exact Nat.le_refl _; intro A3 hA3))
    go_returns
    have hz : (q ++ bs).length / 64 = 0 := by rw [List.length_append]; omega
    rw [hz] at hW hT
    have hb3 := b2.set_ 8 (.slice R2 (q.length + bs.length) c2)
    have hpr := own_ne hb2 hrp hblk1.lt
    refine ⟨rfl, wrote (.slice R2 (q.length + bs.length) c2) hBp ?_ ?_ ?_ ?_⟩
    · rw [hmn, hW]; exact hb3
    · rw [hT]
      show World.ownsRow _ B 5 1 _ (q ++ bs).length ((q ++ bs).map u8v)
      rw [List.length_append]
      exact own_set ho2 hpr
    · exact ((hfr1.mono (fun i h => .inl (.inl h))).drew.grown hg2 (fun g h => .inl (.inr h))).setCell (.inl (.inl rfl)) _
    · rcases hb2 with e | e
      · exact .inl e
      · exact .inr fun g hg => by
          rw [e] at hg
          have := Option.some.inj hg
          have h1 : w1.drew.heap.size = w1.heap.size := rfl
          have := hfr1.size
          omega
  · have hLl : (q ++ bs).length = q.length + bs.length := List.length_append
    rcases Nat.eq_zero_or_pos q.length with h0 | h0'
    case' inl =>
      have hq0 : q = [] := List.eq_nil_of_length_eq_zero h0
      go_enter Tryd.func51, Tryd.ntmps51
      go_wp2_with fail
      generalize hw1 : w.setCell ⟨p, 9, none⟩ (.int .i64 ((m.length : Int) + (bs.length : Int))) = w1 at *
      have hL : LoopAt w p (m.length + bs.length) u (q ++ bs) (Value.slice R q.length cr).ownBlock A bs.length c w1 :=
        ⟨0, _, by omega, by rw [show (q ++ bs).drop (64 * 0) = bs by simp [hq0]]; exact hA.fr hfr1 (fun i hi => hi.1), hblk1, hfr1.mono (fun i h => .inl (.inl h))⟩
    case' inr =>
      have hkn : k ≤ bs.length := by omega
      have hmin2 : (if k < bs.length then (k : Int) else (bs.length : Int)) = (k : Int) := by split <;> omega
      have hqk : q.length + k = 64 := by omega
      obtain ⟨b1, hb1⟩ : ∃ b1, Hid (b1 = bs.take k) := ⟨_, rfl⟩
      have hb1l : b1.length = k := by rw [hb1.out]; simp; omega
      go_enter Tryd.func51, Tryd.ntmps51
      go_wp2_with fail
      generalize hw1 : w.setCell ⟨p, 9, none⟩ (.int .i64 ((m.length : Int) + (bs.length : Int))) = w1 at *
      have e8 : w1.cell? ⟨p, 8, none⟩ = some (.slice R q.length cr) := (hblk1.cell 8).trans rfl
      refine wp_region_ord [0, 1, 2, 3, 5, 6, 7] [4] [8, 9, 10, 11] (by kernel_rfl) (by kernel_rfl) (fun _ _ _ _ _ h => h) ?_
      simp only [ordPick, Option.toList_some, List.cons_append, List.nil_append, List.getElem?_cons_succ, List.getElem?_cons_zero]
      repeat (go_big_quiet_step (fail))
      refine wpQuiet_nil ?_
      repeat (go_big_quiet_step (fail))
      refine wpQuiet_nil ?_
      have a1 : w1.drew.ownsRow B 5 1 (.slice R q.length cr) q.length (q.map u8v) := own_fr hown hfr1.drew (fun g e h => hrp (e.trans (congrArg some h)))
      have a6 := hA.fr hfr1.drew (fun i hi => hi.1)
      have a2 : Bytes w1.drew w1.drew.heap.size (.slice A k c) b1 := by rw [hb1.out]; exact (a6.to hkn).all
      have a3 : B ≤ w1.drew.heap.size := by have := hblk1.lt; show B ≤ w1.heap.size; omega
      have a4 : q.length + b1.length ≤ 140737488355328 := by omega
      have a5 := hblk1.drew
      have a7 : (q ++ b1).length = 64 := by rw [List.length_append]; omega
      have hp1 : p < w1.drew.heap.size := hblk1.lt
      go_wp2_with (first
        | ((with_reducible refine wpl_append_sl _ rfl (.tmp 33) (.tmp 36) 23 rfl B 5 ?_ ?_ _ ?_ q a1 _ _ ?_ b1 a2 a4 a3 64 a7 ?_); rfl; kernel_rfl; rfl; rfl; intro R2 c2 w2 ho2 hg2 hb2; have b2 := a5.grown hg2 (fun e => hrp e.symm); have e82 : w2.cell? ⟨p, 8, none⟩ = some (.slice R q.length cr) := (b2.cell 8).trans rfl; have f82 := b2.frozen 8; have b3 := b2.set_ 8 (.slice R2 64 c2);
                have hrp2 := own_ne hb2 hrp hp1;
                have o3 := own_set (k := 8) (u := .slice R2 64 c2) ho2 hrp2;
                have hfr3 : Fr (fun i => i = p ∨ (Value.slice R q.length cr).ownBlock = some i) w (w2.setCell ⟨p, 8, none⟩ (.slice R2 64 c2)) := ((hfr1.mono (fun i h => .inl (.inl h))).drew.grown hg2 (fun g h => .inl (.inr h))).setCell (.inl (.inl rfl)) _;
                have a63 : Rd (w2.setCell ⟨p, 8, none⟩ (.slice R2 64 c2)) (fun i => i ≠ p ∧ (Value.slice R q.length cr).ownBlock ≠ some i) A bs.length c bs := hA.fr hfr3 (fun i hi h => h.elim hi.1 hi.2))
        | ((with_reducible refine wpl_slice_from rfl 23 (.tmp 40) (.tmp 41) rfl 5 ?_ ?_ (fun i => i ≠ p ∧ (Value.slice R q.length cr).ownBlock ≠ some i) A bs.length c bs a63 ?_ .i64 k ?_ hkn ?_); rfl; kernel_rfl; rfl; rfl; intro A3 hA3))
      generalize hw3 : w2.setCell ⟨p, 8, none⟩ (.slice R2 64 c2) = w3 at *
      have b3' : Blk w3 p 86 (sta u (.slice R2 64 c2) (m.length + bs.length)) := b3
      have e83 : w3.cell? ⟨p, 8, none⟩ = some (.slice R2 64 c2) := (b3'.cell 8).trans rfl
      have hall : ∀ w', (∃ n, w' = w3.drewN n) → Blk w' p 86 (sta u (.slice R2 64 c2) (m.length + bs.length)) := fun w' ⟨n, e⟩ => e ▸ b3'.drewN n
      refine wp_region_ord [0, 1, 2, 3, 5, 6, 7] [8, 4] [9, 10, 11, 12] (by kernel_rfl) (by kernel_rfl) (fun _ _ _ _ _ h => h) ?_
      simp only [ordPick, Option.toList_some, List.cons_append, List.nil_append, List.getElem?_cons_succ, List.getElem?_cons_zero]
      repeat (go_big_quiet_step (fail))
      refine wpQuiet_nil ?_
      repeat (first | ((with_reducible refine wpq_load_part rfl 83 (.tmp 52) rfl p 0 rfl 86 _ hall (st u) rfl _ rfl rfl ?_ ?_); kernel_rfl) | go_big_quiet_step (fail))
      refine wpQuiet_nil ?_
      have hK3 : Kst w3.drew := hK.fr hfr3.drew (fun h => h.elim (fun e => by omega) (fun e => by have := own_base hown e; omega))
      have hby : Bytes w3.drew w3.drew.heap.size (.slice R2 64 c2) (q ++ b1) := by
        have o3' : w3.drew.ownsRow B 5 1 (.slice R2 64 c2) (q ++ b1).length ((q ++ b1).map u8v) := by rw [a7]; exact o3
        exact bytes_of_own o3'
      have hp3 : p < w3.drew.heap.size := b3'.lt
      go_wp2_with (first
        | (go_at_call 62; refine (block_any u (q ++ b1) a7 _ _ hby hK3).mono ?_; rintro e w4 ⟨rfl, hbel4⟩; have b4 := b3'.drew.below hbel4 hp3)
        | ((with_reducible refine wpl_store_part rfl 83 (.tmp 60) (.tmp 58) rfl p 0 ?_ (st (Sha.compress u (q ++ b1))) ?_ 86 _ (sta (Sha.compress u (q ++ b1)) (.slice R2 64 c2) (m.length + bs.length)) b4 ?_ ?_ (st_one _) ?_ ?_); rfl; rfl; kernel_rfl; exact (by decide : 8 ≤ 10); rfl; intro w5 b5 hg5;
                have e85 : w5.cell? ⟨p, 8, none⟩ = some (.slice R2 64 c2) := (b5.cell 8).trans rfl;
                have f85 := b5.frozen 8))
      have hfr5 := ((hfr3.drew.trans (G := fun _ => False) (Fr.of_below hbel4) (fun _ h => h.elim)).grown hg5 (fun g h => .inl (.inl (Option.some.inj h).symm))).setCell (p := ⟨p, 8, none⟩) (.inl (.inl rfl)) (.slice none 0 0)
      have hL1 : (q ++ bs).drop (64 * 1) = bs.drop k := by rw [show 64 * 1 = q.length + k by omega, List.drop_append]; simp
      have hL2 : (q ++ bs).take 64 = q ++ b1 := by rw [show 64 = q.length + k by omega, List.take_append, hb1.out, List.take_of_length_le (by omega), Nat.add_sub_cancel_left]
      have hA3fr : Fr (fun i => i = p) w3 (w5.setCell ⟨p, 8, none⟩ (.slice none 0 0)) := (((Fr.refl (fun i => i = p) w3).drew.trans (G := fun _ => False) (Fr.of_below hbel4) (fun _ h => h.elim)).grown hg5 (fun g h => .inl (Option.some.inj h).symm)).setCell (.inl rfl) _
      have b6 := b5.set_ 8 (.slice none 0 0)
      have hL : LoopAt w p (m.length + bs.length) u (q ++ bs) (Value.slice R q.length cr).ownBlock A3 (bs.length - k) (c - k) (w5.setCell ⟨p, 8, none⟩ (.slice none 0 0)) :=
        ⟨1, .slice none 0 0, by omega, by rw [hL1]; exact hA3.fr hA3fr (fun i hi h => hi.1 h), by rw [blocks_succ, show 64 * 0 = 0 from rfl, List.drop_zero, hL2]; exact b6, hfr5⟩
    all_goals
      go_loopw [1] (fun t wr => ∃ A' n' c', t = .slice A' n' c' ∧ LoopAt w p (m.length + bs.length) u (q ++ bs) (Value.slice R q.length cr).ownBlock A' n' c' wr) (fun t _ => lenOf t)
      case atStart => exact ⟨_, _, _, rfl, hL⟩
      case round =>
        obtain ⟨A', n', c', rfl, j, v0, hj, hrdr, hbl, hfr⟩ := hrel
        have hn' : Hid (n' = (q ++ bs).length - 64 * j) := by show n' = _; rw [hrdr.len, List.length_drop]
        have hc' := hrdr.le
        have hK' : Kst wr := hK.fr hfr (fun h => h.elim (fun e => by omega) (fun e => by have := own_base hown e; omega))
        by_cases h64 : 64 ≤ n'
        · obtain ⟨U, hU⟩ : ∃ U, Hid (U = Sha.blocks j u (q ++ bs)) := ⟨_, rfl⟩
          obtain ⟨D, hD⟩ : ∃ D, Hid (D = ((q ++ bs).drop (64 * j)).take 64) := ⟨_, rfl⟩
          obtain ⟨X, hX⟩ : ∃ X, Hid (X = Sha.compress U D) := ⟨_, rfl⟩
          rw [← hU.out] at hbl
          have hall' : ∀ w', (∃ n, w' = wr.drewN n) → Blk w' p 86 (sta U v0 (m.length + bs.length)) := fun w' ⟨n, e⟩ => e ▸ hbl.drewN n
          have hby' : Bytes wr.drew wr.drew.heap.size (.slice A' 64 c') D := by rw [hD.out]; exact ((hrdr.fr ((Fr.refl (fun _ => False) wr).drew) (fun _ _ h => h)).to h64).all
          have hl64 : D.length = 64 := by have := hn'.out; rw [hD.out]; simp only [List.length_take, List.length_drop]; omega
          have hpr : p < wr.drew.heap.size := hbl.lt
          go_wp2_with fail
          refine wp_region_ord [0, 1, 2, 3, 5, 6] [4] [7, 8, 9, 10] (by kernel_rfl) (by kernel_rfl) (fun _ _ _ _ _ h => h) ?_
          simp only [ordPick, Option.toList_some, List.cons_append, List.nil_append, List.getElem?_cons_succ, List.getElem?_cons_zero]
          repeat (go_big_quiet_step (fail))
          refine wpQuiet_nil ?_
          repeat (first | ((with_reducible refine wpq_load_part rfl 83 (.tmp 70) rfl p 0 rfl 86 _ hall' (st U) rfl _ rfl rfl ?_ ?_); kernel_rfl) | go_big_quiet_step (fail))
          refine wpQuiet_nil ?_
          go_wp2_with (first
            | (go_at_call 62; refine (block_any U D hl64 _ _ hby' hK').mono ?_; rw [← hX.out]; rintro e w7 ⟨rfl, hbel7⟩; have b7 := hbl.drew.below hbel7 hpr)
            | ((with_reducible refine wpl_store_part rfl 83 (.tmp 76) (.tmp 74) rfl p 0 ?_ (st X) ?_ 86 _ (sta X v0 (m.length + bs.length)) b7 ?_ ?_ (st_one _) ?_ ?_); rfl; rfl; kernel_rfl; exact (by decide : 8 ≤ 10); rfl; intro w8 b8 hg8;
                    have hf8 := (((Fr.refl (fun i => i = p) wr).drew.trans (G := fun _ => False) (Fr.of_below hbel7) (fun _ h => h.elim)).grown hg8 (fun g h => .inl (Option.some.inj h).symm));
                    have hr8 := hrdr.fr hf8 (fun i hi h => hi.1 h))
            | ((with_reducible refine wpl_slice_from rfl 23 (.tmp 77) (.const (.int .i64 64)) rfl 5 ?_ ?_ (fun i => i ≠ p ∧ (Value.slice R q.length cr).ownBlock ≠ some i) A' n' c' _ hr8 ?_ .i64 64 ?_ h64 ?_); rfl; kernel_rfl; rfl; rfl; intro A9 hA9))
          go_roundw
          case rel =>
            refine ⟨_, _, _, rfl, j + 1, v0, ?_, ?_, ?_, ?_⟩
            · have := hn'.out; omega
            · rw [List.drop_drop] at hA9; rw [show 64 * (j + 1) = 64 * j + 64 by omega]; exact hA9
            · rw [blocks_succ, ← hU.out, ← hD.out, ← hX.out]; exact b8
            · exact hfr.trans hf8 (fun i h => .inl (.inl h))
          case measure => simp [lenOf]; omega
        · have hB' : B ≤ wr.heap.size := by have := hbl.lt; omega
          have own8 := own_alloc wr hB' 5 [] #[] rfl rfl (by decide)
          have hfa : Fr (fun _ => False) wr (wr.alloc (.cells #[] 5)) := (Fr.refl (fun _ => False) wr).alloc _
          have hb9 : Bytes (wr.alloc (.cells #[] 5)) (wr.alloc (.cells #[] 5)).heap.size (.slice A' n' c') ((q ++ bs).drop (64 * j)) := (hrdr.fr hfa (fun _ _ h => h)).all
          have hl9 : ([] : List UInt8).length + ((q ++ bs).drop (64 * j)).length ≤ 140737488355328 := by simp; omega
          have hB9 : B ≤ (wr.alloc (.cells #[] 5)).heap.size := by have := hfa.size; omega
          have hln : ([] ++ (q ++ bs).drop (64 * j)).length = n' := by simp [hn'.out]
          have c8 := hbl.alloc (.cells #[] 5)
          have hpa : p ≠ wr.heap.size := by have := hbl.lt; omega
          go_wp2_with (first
            | ((with_reducible refine wpl_append_sl _ rfl (.tmp 80) (.tmp 81) 23 rfl B 5 ?_ ?_ _ ?_ [] own8 _ _ ?_ _ hb9 hl9 hB9 n' hln ?_); rfl; kernel_rfl; rfl; rfl; intro R8 z8 w9 ho9 hg9 hb9'; have d9 := c8.grown hg9 (fun e => hpa (Option.some.inj e)); have e89 : w9.cell? ⟨p, 8, none⟩ = some v0 := (d9.cell 8).trans rfl; have f89 := d9.frozen 8))
          go_returns
          have hjj : (q ++ bs).length / 64 = j := by have := hn'.out; omega
          rw [hjj] at hW hT
          have hge : ∀ g, (Value.slice R8 n' z8).ownBlock = some g → wr.heap.size ≤ g := by
            intro g hg
            rcases hb9' with e | e
            · rw [e] at hg; have : wr.heap.size = g := Option.some.inj hg; omega
            · rw [e] at hg; have := Option.some.inj hg; have := hfa.size; omega
          have hrp9 : (Value.slice R8 n' z8).ownBlock ≠ some p := fun e => by have := hge p e; have := hbl.lt; omega
          refine ⟨rfl, wrote (.slice R8 n' z8) hBp ?_ ?_ ?_ (.inr fun g hg => by have := hge g hg; have := hfr.size; omega)⟩
          · rw [hmn, hW]; exact d9.set_ 8 _
          · rw [hT]
            have hlT : ((q ++ bs).drop (64 * j)).length = n' := by rw [List.length_drop]; exact hn'.out.symm
            rw [hlT]
            exact own_set ho9 hrp9
          · exact (((hfr.trans hfa (fun _ h => h.elim)).grown hg9 (fun g h => .inr (by have : wr.heap.size = g := Option.some.inj h; have := hfr.size; omega))).setCell (.inl (.inl rfl)) _)
end Go.Proofs.YtajohibeoicepaaDoor

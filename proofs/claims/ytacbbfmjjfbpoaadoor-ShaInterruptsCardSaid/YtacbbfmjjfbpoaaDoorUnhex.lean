/-
  Hexadecimal text, read.
-/
import Derived.Test.YtacbbfmjjfbpoaaDoorIdx
namespace Hexa
def okAt (l : List UInt8) (k : Nat) : Bool := decide (0 ≤ val (l.getD (2 * k) 0)) && decide (0 ≤ val (l.getD (2 * k + 1) 0))
def byteAt (l : List UInt8) (k : Nat) : UInt8 := UInt8.ofNat (val (l.getD (2 * k) 0) * 16 + val (l.getD (2 * k + 1) 0)).toNat
/-- The bytes of a text, and whether it is one. -/
def unhex (l : List UInt8) : List UInt8 × Bool := if l.length % 2 = 0 ∧ (List.range (l.length / 2)).all (okAt l) = true then ((List.range (l.length / 2)).map (byteAt l), true) else ([], false)
theorem unhex_bad (l : List UInt8) (k : Nat) (hk : 2 * k < l.length) (h : okAt l k = false) : unhex l = ([], false) := by
  unfold unhex
  rw [if_neg]
  rintro ⟨h1, h2⟩
  rw [List.all_eq_true] at h2
  rw [h2 k (List.mem_range.2 (by omega))] at h
  cases h
theorem unhex_odd (l : List UInt8) (h : l.length % 2 ≠ 0) : unhex l = ([], false) := by
  unfold unhex
  rw [if_neg (fun e => h e.1)]
theorem unhex_good (l : List UInt8) (k : Nat) (hk : 2 * k = l.length) (h : ∀ i, i < k → okAt l i = true) : unhex l = ((List.range k).map (byteAt l), true) := by
  unfold unhex
  have e : l.length / 2 = k := by omega
  rw [e, if_pos ⟨by omega, List.all_eq_true.2 fun i hi => h i (List.mem_range.1 hi)⟩]
end Hexa
namespace Go.Pl
theorem or_all : ∀ a b : Fin 16, bits BinOp.or IntKind.i64 ((a : Nat) * 16 : Int) ((b : Nat) : Int) = ((a : Nat) * 16 + (b : Nat) : Int) := by decide +kernel
theorem or_nibbles (a b : Int) (ha : 0 ≤ a) (ha' : a < 16) (hb : 0 ≤ b) (hb' : b < 16) : bits BinOp.or IntKind.i64 (a * 16) b = a * 16 + b := by
  have h := or_all ⟨a.toNat, by omega⟩ ⟨b.toNat, by omega⟩
  simp only [Int.toNat_of_nonneg ha, Int.toNat_of_nonneg hb] at h
  exact h
end Go.Pl
namespace Go.Proofs.YtacbbfmjjfbpoaaDoor
open Go.RowKit Go.Pl
set_option maxRecDepth 100000 in
set_option maxHeartbeats 4000000 in
theorem unhex_any (w : World) (s : ByteArray) (hl : s.data.toList.length ≤ 35184372088832) :
    Calls Tryd.prog 20 #[.string s] w fun e w' => e = .returned (.tuple #[.string ⟨(Hexa.unhex s.data.toList).1.toArray⟩, .bool (Hexa.unhex s.data.toList).2]) ∧ Below w.heap.size w w' := by
  obtain ⟨l, hs⟩ : ∃ l, s.data.toList = l := ⟨_, rfl⟩
  rw [hs] at hl ⊢
  have hsz : s.size = l.length := by rw [← hs]; rfl
  have hs' : Hid (s.data.toList = l) := hs
  clear hs
  by_cases hodd : l.length % 2 = 0
  · obtain ⟨N, hN⟩ : ∃ N, l.length = 2 * N := ⟨l.length / 2, by omega⟩
    have hNi : (l.length : Int) % 2 = 0 := by omega
    have hNq : (l.length : Int) / 2 = (N : Int) := by omega
    have hNl : Hid (l.length = 2 * N) := hN
    clear hN hodd
    go_enter Tryd.func20, Tryd.ntmps20
    go_wp2_with ((with_reducible refine wpl_make_bytes rfl 22 _ _ rfl w.heap.size 5 ?_ ?_ .i64 .i64 N ?_ ?_ ?_ (Nat.le_refl _) ?_); rfl; kernel_rfl; rfl; rfl; (have := hNl.out; omega); intro w1 ho1 hg1)
    clear hNi hNq
    have hf1 : Fr (fun _ => False) w w1 := (Fr.refl (fun _ => False) w).grown hg1 (fun g h => (by cases h))
    go_loopw [4, 5] (fun t4 t5 wr => ∃ k A c, k ≤ N ∧ t4 = .slice A k c ∧ t5 = .int .i64 (2 * (k : Int)) ∧ wr.ownsRow w.heap.size 5 1 (.slice A k c) k (((List.range k).map (Hexa.byteAt l)).map u8v) ∧ (∀ i, i < k → Hexa.okAt l i = true) ∧ Fr (fun _ => False) w wr) (fun _ t5 _ => 2 * N - (intOf t5).toNat)
    case atStart => exact ⟨0, _, _, Nat.zero_le _, rfl, rfl, ho1, by omega, hf1⟩
    case round =>
      obtain ⟨k, A, c, hk, rfl, rfl, hor, hok, hfr⟩ := hrel
      have hok' : Hid (∀ i, i < k → Hexa.okAt l i = true) := hok
      clear hok
      by_cases hlt : k < N
      · have hlt1 : 2 * k < l.length := by have := hNl.out; omega
        have hlt2 : 2 * k + 1 < l.length := by have := hNl.out; omega
        obtain ⟨x, hx'⟩ : ∃ x, x = l.getD (2 * k) 0 := ⟨_, rfl⟩
        obtain ⟨y, hy'⟩ : ∃ y, y = l.getD (2 * k + 1) 0 := ⟨_, rfl⟩
        have hx : Hid (x = l.getD (2 * k) 0) := hx'
        have hy : Hid (y = l.getD (2 * k + 1) 0) := hy'
        clear hx' hy'
        have hq1 : Hid (Value.int .i64 (2 * (k : Int)) = Value.int .i64 ((2 * k : Nat) : Int)) := congrArg _ (by omega)
        have hq2 : Hid (Value.int .i64 (2 * (k : Int) + 1) = Value.int .i64 ((2 * k + 1 : Nat) : Int)) := congrArg _ (by omega)
        obtain ⟨vx, hvx⟩ : ∃ v, v = Hexa.val x := ⟨_, rfl⟩
        obtain ⟨vy, hvy⟩ : ∃ v, v = Hexa.val y := ⟨_, rfl⟩
        have hx1 := Hexa.val_lt x
        have hy1 := Hexa.val_lt y
        have hx2 := Hexa.val_ge x
        have hy2 := Hexa.val_ge y
        rw [← hvx] at hx1 hx2
        rw [← hvy] at hy1 hy2
        have hvx' : Hid (vx = Hexa.val x) := hvx
        have hvy' : Hid (vy = Hexa.val y) := hvy
        clear hvx hvy
        go_wp2_with fail
        refine wp_region_quiet_lit (by kernel_rfl) (by kernel_rfl) ?_
        iterate 2 (go_big_quiet_step (fail))
        refine wpq_index_string rfl 9 (.tmp 22) (.tmp 23) rfl rfl s l hs'.out .i64 (2 * k) rfl hq1.out hlt1 ?_
        rw [← hx.out]
        simp only [Act.put, List.setIfInBounds_toArray, List.set_cons_succ, List.set_cons_zero, u8v]
        go_big_quiet_step (exact quiet1 ((idx_any _ rfl x _).mono fun e w h => (by rw [← hvx'.out] at h; exact h)))
        iterate 3 (go_big_quiet_step (fail))
        refine wpq_index_string rfl 9 (.tmp 26) (.tmp 28) rfl rfl s l hs'.out .i64 (2 * k + 1) rfl hq2.out hlt2 ?_
        rw [← hy.out]
        simp only [Act.put, List.setIfInBounds_toArray, List.set_cons_succ, List.set_cons_zero, u8v]
        go_big_quiet_step (exact quiet1 ((idx_any _ rfl y _).mono fun e w h => (by rw [← hvy'.out] at h; exact h)))
        repeat (go_big_quiet_step (fail))
        refine wpQuiet_nil ?_
        intro _ hw'
        obtain ⟨nq, hw''⟩ := hw'
        subst hw''
        have hfr2 := hfr.drewN nq
        have hbad : vx < 0 ∨ vy < 0 → Hid (Hexa.unhex l = ([], false)) := fun h => Hexa.unhex_bad l k hlt1 (by
          unfold Hexa.okAt
          rw [← hx.out, ← hy.out, ← hvx'.out, ← hvy'.out]
          rcases h with h | h
          · rw [decide_eq_false (by omega)]; rfl
          · rw [decide_eq_false (p := 0 ≤ vy) (by omega), Bool.and_false])
        by_cases hvx0 : vx < 0
        · have hb := hbad (.inl hvx0)
          clear hbad
          go_wp2_with fail
          go_ret2
          rw [hb.out]
          exact ⟨rfl, hfr2.below (fun _ h => h.elim) (Nat.le_refl _)⟩
        · by_cases hvy0 : vy < 0
          · have hb := hbad (.inr hvy0)
            clear hbad
            go_wp2_with fail
            go_ret2
            rw [hb.out]
            exact ⟨rfl, hfr2.below (fun _ h => h.elim) (Nat.le_refl _)⟩
          · clear hbad
            obtain ⟨z, hz'⟩ : ∃ z : UInt8, z = Hexa.byteAt l k := ⟨_, rfl⟩
            have hz : bits BinOp.or IntKind.i64 (vx * 16) vy % 256 = (z.toNat : Int) := by
              rw [or_nibbles vx vy (by omega) hx1 (by omega) hy1, hz']
              unfold Hexa.byteAt
              rw [← hx.out, ← hy.out, ← hvx'.out, ← hvy'.out, UInt8.toNat_ofNat']
              omega
            have hrz : Hid ((List.range (k + 1)).map (Hexa.byteAt l) = (List.range k).map (Hexa.byteAt l) ++ [z]) := by show _ = _; rw [List.range_succ, List.map_append, hz']; rfl
            have hok2 : Hid (∀ i, i < k + 1 → Hexa.okAt l i = true) := fun i hi => by
              rcases Nat.lt_or_ge i k with h | h
              · exact hok'.out i h
              · have : i = k := by omega
                subst this
                unfold Hexa.okAt
                rw [← hx.out, ← hy.out, ← hvx'.out, ← hvy'.out, decide_eq_true (by omega), decide_eq_true (by omega)]; rfl
            clear hz'
            obtain ⟨O, hO'⟩ : ∃ O, O = (List.range k).map (Hexa.byteAt l) := ⟨_, rfl⟩
            have hOl : O.length = k := by rw [hO']; simp
            rw [← hO'] at hor
            have hO : Hid (O = (List.range k).map (Hexa.byteAt l)) := hO'
            clear hO'
            have or4 : ((wr.drewN nq).alloc (.cells #[.int .u8 (z.toNat : Int)] 5)).ownsRow w.heap.size 5 1 (.slice A k c) O.length (O.map u8v) := by rw [hOl]; exact own_new (own_fr hor ((Fr.refl (fun _ => False) wr).drewN nq) (fun _ _ h => h)) _
            have br4 := bytes_alloc (wr.drewN nq) 5 [z] #[.int .u8 (z.toNat : Int)] rfl (by simp [maxLen])
            have fr4 := hfr2.alloc (.cells #[.int .u8 (z.toNat : Int)] 5)
            have hl4 : (O ++ [z]).length = k + 1 := by simp [hOl]
            have hs4 : O.length + [z].length ≤ 140737488355328 := by simp [hOl]; have := hNl.out; omega
            clear hOl
            go_wp2_with ((with_reducible refine wpl_append_sl _ rfl (.tmp 37) (.tmp 43) 22 rfl w.heap.size 5 ?_ ?_ _ ?_ O or4 _ _ ?_ [z] br4 hs4 fr4.size (k + 1) hl4 ?_); rfl; kernel_rfl; rfl; rfl; intro R6 c6 w6 ho6 hg6 hb6)
            go_roundw
            case rel =>
              refine ⟨k + 1, R6, c6, hlt, rfl, by go_num, ?_, hok2.out, fr4.grown hg6 (fun g h => .inr (own_base or4 h))⟩
              rw [hrz.out, ← hO.out]; exact ho6
            case measure => simp [intOf]; omega
      · have hkl : Hid (k = N) := show k = N by omega
        have hun : Hid (Hexa.unhex l = ((List.range k).map (Hexa.byteAt l), true)) := Hexa.unhex_good l k (by have := hNl.out; have := hkl.out; omega) hok'.out
        have hge : ¬ 2 * k < l.length := by have := hNl.out; omega
        have hbo : Bytes wr wr.heap.size (.slice A k c) ((List.range k).map (Hexa.byteAt l)) := (own_rd hor).all
        go_wp2_with ((with_reducible refine wpl_string_bytes _ rfl 22 9 5 (.tmp 45) rfl ?_ ?_ ?_ wr.heap.size _ ?_ _ hbo ?_); rfl; rfl; rfl; rfl)
        go_ret2
        rw [hun.out]
        exact ⟨rfl, hfr.below (fun _ h => h.elim) (Nat.le_refl _)⟩
  · have hun : Hid (Hexa.unhex l = ([], false)) := Hexa.unhex_odd l hodd
    have hNi : (l.length : Int) % 2 ≠ 0 := by omega
    go_enter Tryd.func20, Tryd.ntmps20
    go_wp2_with fail
    go_ret2
    rw [hun.out]
    exact ⟨rfl, Below.refl _ _⟩
set_option maxRecDepth 100000 in
set_option maxHeartbeats 4000000 in
theorem refunhex_any (w : World) (s : ByteArray) (hl : s.data.toList.length ≤ 35184372088832) :
    Calls Tryd.prog 21 #[.string s] w fun e w' => e = .returned (.tuple #[.string ⟨(Hexa.unhex s.data.toList).1.toArray⟩, .bool (Hexa.unhex s.data.toList).2]) ∧ Below w.heap.size w w' := by
  obtain ⟨l, hs⟩ : ∃ l, s.data.toList = l := ⟨_, rfl⟩
  rw [hs] at hl ⊢
  have hsz : s.size = l.length := by rw [← hs]; rfl
  have hs' : Hid (s.data.toList = l) := hs
  clear hs
  by_cases hodd : l.length % 2 = 0
  · obtain ⟨N, hN⟩ : ∃ N, l.length = 2 * N := ⟨l.length / 2, by omega⟩
    have hNi : (l.length : Int) % 2 = 0 := by omega
    have hNl : Hid (l.length = 2 * N) := hN
    clear hN hodd
    go_enter Tryd.func21, Tryd.ntmps21
    go_wp2_with fail
    clear hNi
    go_loopw [4, 5] (fun t4 t5 wr => ∃ k A c, k ≤ N ∧ t4 = .slice A k c ∧ t5 = .int .i64 (2 * (k : Int)) ∧ wr.ownsRow w.heap.size 5 1 (.slice A k c) k (((List.range k).map (Hexa.byteAt l)).map u8v) ∧ (∀ i, i < k → Hexa.okAt l i = true) ∧ Fr (fun _ => False) w wr) (fun _ t5 _ => 2 * N - (intOf t5).toNat)
    case atStart => exact ⟨0, none, 0, Nat.zero_le _, rfl, rfl, ⟨rfl, .inl ⟨rfl, rfl⟩⟩, by omega, Fr.refl _ _⟩
    case round =>
      obtain ⟨k, A, c, hk, rfl, rfl, hor, hok, hfr⟩ := hrel
      have hok' : Hid (∀ i, i < k → Hexa.okAt l i = true) := hok
      clear hok
      by_cases hlt : k < N
      · have hlt1 : 2 * k < l.length := by have := hNl.out; omega
        have hlt2 : 2 * k + 1 < l.length := by have := hNl.out; omega
        obtain ⟨x, hx'⟩ : ∃ x, x = l.getD (2 * k) 0 := ⟨_, rfl⟩
        obtain ⟨y, hy'⟩ : ∃ y, y = l.getD (2 * k + 1) 0 := ⟨_, rfl⟩
        have hx : Hid (x = l.getD (2 * k) 0) := hx'
        have hy : Hid (y = l.getD (2 * k + 1) 0) := hy'
        clear hx' hy'
        have hq1 : Hid (Value.int .i64 (2 * (k : Int)) = Value.int .i64 ((2 * k : Nat) : Int)) := congrArg _ (by omega)
        have hq2 : Hid (Value.int .i64 (2 * (k : Int) + 1) = Value.int .i64 ((2 * k + 1 : Nat) : Int)) := congrArg _ (by omega)
        obtain ⟨vx, hvx⟩ : ∃ v, v = Hexa.val x := ⟨_, rfl⟩
        obtain ⟨vy, hvy⟩ : ∃ v, v = Hexa.val y := ⟨_, rfl⟩
        have hx1 := Hexa.val_lt x
        have hy1 := Hexa.val_lt y
        have hx2 := Hexa.val_ge x
        have hy2 := Hexa.val_ge y
        rw [← hvx] at hx1 hx2
        rw [← hvy] at hy1 hy2
        have hvx' : Hid (vx = Hexa.val x) := hvx
        have hvy' : Hid (vy = Hexa.val y) := hvy
        clear hvx hvy
        go_wp2_with fail
        refine wp_region_quiet_lit (by kernel_rfl) (by kernel_rfl) ?_
        iterate 2 (go_big_quiet_step (fail))
        refine wpq_index_string rfl 9 (.tmp 18) (.tmp 19) rfl rfl s l hs'.out .i64 (2 * k) rfl hq1.out hlt1 ?_
        rw [← hx.out]
        simp only [Act.put, List.setIfInBounds_toArray, List.set_cons_succ, List.set_cons_zero, u8v]
        go_big_quiet_step (exact quiet1 ((digit_any x _).mono fun e w h => (by rw [← hvx'.out] at h; exact h)))
        iterate 3 (go_big_quiet_step (fail))
        refine wpq_index_string rfl 9 (.tmp 22) (.tmp 24) rfl rfl s l hs'.out .i64 (2 * k + 1) rfl hq2.out hlt2 ?_
        rw [← hy.out]
        simp only [Act.put, List.setIfInBounds_toArray, List.set_cons_succ, List.set_cons_zero, u8v]
        go_big_quiet_step (exact quiet1 ((digit_any y _).mono fun e w h => (by rw [← hvy'.out] at h; exact h)))
        repeat (go_big_quiet_step (fail))
        refine wpQuiet_nil ?_
        intro _ hw'
        obtain ⟨nq, hw''⟩ := hw'
        subst hw''
        have hfr2 := hfr.drewN nq
        have hbad : vx < 0 ∨ vy < 0 → Hid (Hexa.unhex l = ([], false)) := fun h => Hexa.unhex_bad l k hlt1 (by
          unfold Hexa.okAt
          rw [← hx.out, ← hy.out, ← hvx'.out, ← hvy'.out]
          rcases h with h | h
          · rw [decide_eq_false (by omega)]; rfl
          · rw [decide_eq_false (p := 0 ≤ vy) (by omega), Bool.and_false])
        by_cases hvx0 : vx < 0
        · have hb := hbad (.inl hvx0)
          clear hbad
          go_wp2_with fail
          go_ret2
          rw [hb.out]
          exact ⟨rfl, hfr2.below (fun _ h => h.elim) (Nat.le_refl _)⟩
        · by_cases hvy0 : vy < 0
          · have hb := hbad (.inr hvy0)
            clear hbad
            go_wp2_with fail
            go_ret2
            rw [hb.out]
            exact ⟨rfl, hfr2.below (fun _ h => h.elim) (Nat.le_refl _)⟩
          · clear hbad
            obtain ⟨z, hz'⟩ : ∃ z : UInt8, z = Hexa.byteAt l k := ⟨_, rfl⟩
            have hz : 16 * vx + vy = (z.toNat : Int) := by
              rw [hz']
              unfold Hexa.byteAt
              rw [← hx.out, ← hy.out, ← hvx'.out, ← hvy'.out, UInt8.toNat_ofNat']
              omega
            have hrz : Hid ((List.range (k + 1)).map (Hexa.byteAt l) = (List.range k).map (Hexa.byteAt l) ++ [z]) := by show _ = _; rw [List.range_succ, List.map_append, hz']; rfl
            have hok2 : Hid (∀ i, i < k + 1 → Hexa.okAt l i = true) := fun i hi => by
              rcases Nat.lt_or_ge i k with h | h
              · exact hok'.out i h
              · have : i = k := by omega
                subst this
                unfold Hexa.okAt
                rw [← hx.out, ← hy.out, ← hvx'.out, ← hvy'.out, decide_eq_true (by omega), decide_eq_true (by omega)]; rfl
            clear hz'
            obtain ⟨O, hO'⟩ : ∃ O, O = (List.range k).map (Hexa.byteAt l) := ⟨_, rfl⟩
            have hOl : O.length = k := by rw [hO']; simp
            rw [← hO'] at hor
            have hO : Hid (O = (List.range k).map (Hexa.byteAt l)) := hO'
            clear hO'
            have or4 : ((wr.drewN nq).alloc (.cells #[.int .u8 (z.toNat : Int)] 5)).ownsRow w.heap.size 5 1 (.slice A k c) O.length (O.map u8v) := by rw [hOl]; exact own_new (own_fr hor ((Fr.refl (fun _ => False) wr).drewN nq) (fun _ _ h => h)) _
            have br4 := bytes_alloc (wr.drewN nq) 5 [z] #[.int .u8 (z.toNat : Int)] rfl (by simp [maxLen])
            have fr4 := hfr2.alloc (.cells #[.int .u8 (z.toNat : Int)] 5)
            have hl4 : (O ++ [z]).length = k + 1 := by simp [hOl]
            have hs4 : O.length + [z].length ≤ 140737488355328 := by simp [hOl]; have := hNl.out; omega
            clear hOl
            go_wp2_with ((with_reducible refine wpl_append_sl _ rfl (.tmp 33) (.tmp 39) 22 rfl w.heap.size 5 ?_ ?_ _ ?_ O or4 _ _ ?_ [z] br4 hs4 fr4.size (k + 1) hl4 ?_); rfl; kernel_rfl; rfl; rfl; intro R6 c6 w6 ho6 hg6 hb6)
            go_roundw
            case rel =>
              refine ⟨k + 1, R6, c6, hlt, rfl, by go_num, ?_, hok2.out, fr4.grown hg6 (fun g h => .inr (own_base or4 h))⟩
              rw [hrz.out, ← hO.out]; exact ho6
            case measure => simp [intOf]; omega
      · have hkl : Hid (k = N) := show k = N by omega
        have hun : Hid (Hexa.unhex l = ((List.range k).map (Hexa.byteAt l), true)) := Hexa.unhex_good l k (by have := hNl.out; have := hkl.out; omega) hok'.out
        have hge : ¬ 2 * k < l.length := by have := hNl.out; omega
        have hbo : Bytes wr wr.heap.size (.slice A k c) ((List.range k).map (Hexa.byteAt l)) := (own_rd hor).all
        go_wp2_with ((with_reducible refine wpl_string_bytes _ rfl 22 9 5 (.tmp 41) rfl ?_ ?_ ?_ wr.heap.size _ ?_ _ hbo ?_); rfl; rfl; rfl; rfl)
        go_ret2
        rw [hun.out]
        exact ⟨rfl, hfr.below (fun _ h => h.elim) (Nat.le_refl _)⟩
  · have hun : Hid (Hexa.unhex l = ([], false)) := Hexa.unhex_odd l hodd
    have hNi : (l.length : Int) % 2 ≠ 0 := by omega
    go_enter Tryd.func21, Tryd.ntmps21
    go_wp2_with fail
    go_ret2
    rw [hun.out]
    exact ⟨rfl, Below.refl _ _⟩
end Go.Proofs.YtacbbfmjjfbpoaaDoor

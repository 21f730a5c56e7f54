/-
  Hexadecimal text.
-/
import Derived.Test.YtacbbfmjjfbpoaaDoorSum
namespace Hexa
def digits : List UInt8 := [48, 49, 50, 51, 52, 53, 54, 55, 56, 57, 97, 98, 99, 100, 101, 102]
def digit (n : Nat) : UInt8 := digits.getD n 0
def two (c : UInt8) : List UInt8 := [digit (c.toNat / 16), digit (c.toNat % 16)]
def hex (l : List UInt8) : List UInt8 := l.flatMap two
theorem length_hex (l : List UInt8) : (hex l).length = 2 * l.length := by
  induction l with
  | nil => rfl
  | cons c l ih => simp only [hex, List.flatMap_cons, List.length_append, List.length_cons] at ih ⊢; rw [ih]; simp [two]; omega
theorem hex_take (l : List UInt8) (k : Nat) (h : k < l.length) : hex (l.take (k + 1)) = hex (l.take k) ++ two (l.getD k 0) := by
  rw [List.take_add_one]
  have e : l[k]?.toList = [l.getD k 0] := by simp [h]
  rw [e]
  simp [hex]
end Hexa
namespace Go.Pl
section
variable {P : Program} {ops : Array Oper} {rest : List Oper} {o : Oper} {a : Act} {w : World}
theorem run_index_bytes (w : World) (t : TypeId) (s : ByteArray) (l : List UInt8) (hs : s.data.toList = l) (k : Nat) (kk : IntKind) (h : P.underlying t = some .string) (hk : k < l.length) :
    (Instr.index t (.string s) (.int kk (k : Int))).run P w = .ok (u8v (l.getD k 0)) w := by
  subst hs
  have hk' : k < s.data.size := by simpa using hk
  have h1 : (if 0 ≤ (k : Int) then s[(k : Int).toNat]? else none) = some (s.data.toList.getD k 0) := by
    rw [if_pos (by omega), Int.toNat_natCast, ByteArray.getElem?_lt' s k hk']
    have e : s.data.toList.getD k 0 = s.data[k]'hk' := by rw [List.getD_eq_getElem?_getD, List.getElem?_eq_getElem hk]; rfl
    rw [e]
    rfl
  unfold Instr.index
  simp only [asIntOf, Sem.run_bind, Sem.run_pure, Result.andThen_ok, run_underlying h, h1, u8v]
/-- s[k] of a string where a region is walked quietly. -/
theorem wpq_index_string {C : World → Prop} {R : Act → Prop} (hgd : o.guard = none) (t : TypeId) (x i : Operand) (ho : o.op = .index t x i) (ht : P.underlying t = some .string) (s : ByteArray) (l : List UInt8) (hs : s.data.toList = l) (kk : IntKind) (k : Nat)
    (hx : a.eval x = .string s) (hi : a.eval i = .int kk (k : Int)) (hk : k < l.length)
    (h : wpQuiet P ops C R rest (a.put o.dst (u8v (l.getD k 0)))) : wpQuiet P ops C R (o :: rest) a :=
  BigFrame.wpQuiet_want (by simp [Region.wanted, hgd]) fun K hK => ⟨_, fun w hw => by
    unfold Oper.quietAt execOp
    simp only [ho, hx, hi, Sem.run_bind, run_index_bytes w t s l hs k kk ht hk, Result.andThen_ok, Sem.run_pure]
    exact ⟨rfl, rfl⟩, hK _ h⟩
/-- The same elsewhere. -/
theorem wpl_index_string {Q : Exit → Act → World → Prop} (hgd : o.guard = none) (t : TypeId) (x i : Operand) (ho : o.op = .index t x i) (ht : P.underlying t = some .string) (s : ByteArray) (l : List UInt8) (hs : s.data.toList = l) (kk : IntKind) (k : Nat)
    (hx : a.eval x = .string s) (hi : a.eval i = .int kk (k : Int)) (hk : k < l.length)
    (h : wpList P ops Q rest (a.put o.dst (u8v (l.getD k 0))) w) : wpList P ops Q (o :: rest) a w := by
  refine wpl_value w hgd (u8v (l.getD k 0)) ?_ h
  unfold execOp
  simp only [ho, hx, hi, Sem.run_bind, run_index_bytes w t s l hs k kk ht hk, Result.andThen_ok, Sem.run_pure]
end
end Go.Pl
namespace Go.Proofs.YtacbbfmjjfbpoaaDoor
open Go.RowKit Go.Pl
set_option maxRecDepth 100000 in
set_option maxHeartbeats 4000000 in
theorem hex_any (w : World) (s : ByteArray) (hl : s.data.toList.length ≤ 35184372088832) :
    Calls Tryd.prog 19 #[.string s] w fun e w' => e = .returned (.string ⟨(Hexa.hex s.data.toList).toArray⟩) ∧ Below w.heap.size w w' := by
  obtain ⟨l, hs⟩ : ∃ l, s.data.toList = l := ⟨_, rfl⟩
  rw [hs] at hl ⊢
  have hsz : s.size = l.length := by rw [← hs]; rfl
  have hs' : Hid (s.data.toList = l) := hs
  clear hs
  have hmk : 2 * (l.length : Int) = ((2 * l.length : Nat) : Int) := by omega
  have hmk' : Hid (2 * (l.length : Int) = ((2 * l.length : Nat) : Int)) := hmk
  clear hmk
  go_enter Tryd.func19, Tryd.ntmps19
  go_wp2_with ((with_reducible refine wpl_make_bytes rfl 22 _ _ rfl w.heap.size 5 ?_ ?_ .i64 .i64 (2 * l.length) ?_ ?_ ?_ (Nat.le_refl _) ?_); rfl; kernel_rfl; rfl; exact congrArg _ hmk'.out; omega; intro w1 ho1 hg1)
  have hf1 : Fr (fun _ => False) w w1 := (Fr.refl (fun _ => False) w).grown hg1 (fun g h => (by cases h))
  go_loopw [3, 11] (fun t3 t11 wr => ∃ k A c, k ≤ l.length ∧ t3 = .slice A (2 * k) c ∧ t11 = .int .i64 (k : Int) ∧ wr.ownsRow w.heap.size 5 1 (.slice A (2 * k) c) (2 * k) ((Hexa.hex (l.take k)).map u8v) ∧ Fr (fun _ => False) w wr) (fun _ t11 _ => l.length - (intOf t11).toNat)
  case atStart => exact ⟨0, _, _, Nat.zero_le _, rfl, rfl, ho1, hf1⟩
  case round =>
    obtain ⟨k, A, c, hk, rfl, rfl, hor, hfr⟩ := hrel
    by_cases hlt : k < l.length
    · obtain ⟨x, hx'⟩ : ∃ x, x = l.getD k 0 := ⟨_, rfl⟩
      have hht : Hid (Hexa.hex (l.take (k + 1)) = Hexa.hex (l.take k) ++ Hexa.two x) := by show _ = _; rw [hx']; exact Hexa.hex_take l k hlt
      obtain ⟨O, hO'⟩ : ∃ O, O = Hexa.hex (l.take k) := ⟨_, rfl⟩
      have hOl : O.length = 2 * k := by rw [hO', Hexa.length_hex, List.length_take]; omega
      rw [← hO'] at hor
      have hO : Hid (O = Hexa.hex (l.take k)) := hO'
      have hx : Hid (x = l.getD k 0) := hx'
      clear hx' hO'
      have hx16 : x.toNat / 16 < 16 := by have := x.toNat_lt; omega
      have hq16 : Hid (Value.int .u8 ((x.toNat : Int) / 16) = Value.int .u8 ((x.toNat / 16 : Nat) : Int)) := congrArg _ (by omega)
      have hm16 : x.toNat % 16 < 16 := by omega
      obtain ⟨d0, hd0'⟩ : ∃ d0, d0 = Hexa.digit (x.toNat / 16) := ⟨_, rfl⟩
      obtain ⟨d1, hd1'⟩ : ∃ d1, d1 = Hexa.digit (x.toNat % 16) := ⟨_, rfl⟩
      have hd0 : Hid (d0 = Hexa.digit (x.toNat / 16)) := hd0'
      have hd1 : Hid (d1 = Hexa.digit (x.toNat % 16)) := hd1'
      clear hd0' hd1'
      go_wp2_with fail
      refine wp_region_ord [0, 1, 2, 3, 4, 5, 6, 7, 8, 9, 10] [] [11, 12, 13] (by kernel_rfl) (by kernel_rfl) (fun _ _ _ _ _ h => h) ?_
      simp only [ordPick, Option.toList_some, List.cons_append, List.nil_append, List.getElem?_cons_succ, List.getElem?_cons_zero]
      iterate 3 (go_big_quiet_step (fail))
      refine wpq_index_string rfl 9 (.tmp 15) (.tmp 16) rfl rfl s l hs'.out .i64 k rfl rfl hlt ?_
      rw [← hx.out]
      simp only [Act.put, List.setIfInBounds_toArray, List.set_cons_succ, List.set_cons_zero, u8v]
      go_big_quiet_step (fail)
      refine wpq_index_string rfl 9 _ (.tmp 18) rfl rfl _ Hexa.digits rfl .u8 (x.toNat / 16) rfl hq16.out hx16 ?_
      rw [show Hexa.digits.getD (x.toNat / 16) 0 = d0 from hd0.out.symm]
      simp only [Act.put, List.setIfInBounds_toArray, List.set_cons_succ, List.set_cons_zero, u8v]
      iterate 2 (go_big_quiet_step (fail))
      refine wpq_index_string rfl 9 (.tmp 20) (.tmp 21) rfl rfl s l hs'.out .i64 k rfl rfl hlt ?_
      rw [← hx.out]
      simp only [Act.put, List.setIfInBounds_toArray, List.set_cons_succ, List.set_cons_zero, u8v]
      go_big_quiet_step (fail)
      refine wpq_index_string rfl 9 _ (.tmp 23) rfl rfl _ Hexa.digits rfl .u8 (x.toNat % 16) rfl rfl hm16 ?_
      rw [show Hexa.digits.getD (x.toNat % 16) 0 = d1 from hd1.out.symm]
      simp only [Act.put, List.setIfInBounds_toArray, List.set_cons_succ, List.set_cons_zero, u8v]
      refine wpQuiet_nil ?_
      refine wpQuiet_nil ?_
      have or4 : (wr.alloc (.cells #[.int .u8 (d0.toNat : Int), .int .u8 (d1.toNat : Int)] 5)).drew.ownsRow w.heap.size 5 1 (.slice A (2 * k) c) O.length (O.map u8v) := by rw [hOl]; exact own_new hor _
      have br4 : Bytes (wr.alloc (.cells #[.int .u8 (d0.toNat : Int), .int .u8 (d1.toNat : Int)] 5)).drew (wr.alloc (.cells #[.int .u8 (d0.toNat : Int), .int .u8 (d1.toNat : Int)] 5)).drew.heap.size (.slice (some ⟨wr.heap.size, 0, none⟩) 2 2) [d0, d1] := bytes_alloc wr 5 [d0, d1] #[.int .u8 (d0.toNat : Int), .int .u8 (d1.toNat : Int)] rfl (by simp [maxLen])
      have fr4 := (hfr.alloc (.cells #[.int .u8 (d0.toNat : Int), .int .u8 (d1.toNat : Int)] 5)).drew
      have hl4 : (O ++ [d0, d1]).length = 2 * (k + 1) := by simp [hOl]; omega
      have hs4 : O.length + [d0, d1].length ≤ 140737488355328 := by simp [hOl]; omega
      clear hOl
      go_wp2_with ((with_reducible refine wpl_append_sl _ rfl (.tmp 14) (.tmp 25) 22 rfl w.heap.size 5 ?_ ?_ _ ?_ O or4 _ _ ?_ [d0, d1] br4 hs4 fr4.size (2 * (k + 1)) hl4 ?_); rfl; kernel_rfl; rfl; rfl; intro R6 c6 w6 ho6 hg6 hb6)
      go_roundw
      case rel =>
        refine ⟨k + 1, R6, c6, hlt, rfl, by go_num, ?_, fr4.grown hg6 (fun g h => .inr (own_base or4 h))⟩
        rw [hht.out, ← hO.out, show Hexa.two x = [d0, d1] by rw [hd0.out, hd1.out]; rfl]; exact ho6
      case measure => simp [intOf]; omega
    · have hkl : Hid (k = l.length) := show k = l.length by omega
      have hbo : Bytes wr wr.heap.size (.slice A (2 * k) c) (Hexa.hex l) := by
        have e : l.take k = l := List.take_of_length_le (by have := hkl.out; omega)
        rw [e] at hor
        exact (own_rd hor).all
      go_wp2_with ((with_reducible refine wpl_string_bytes _ rfl 22 9 5 (.tmp 28) rfl ?_ ?_ ?_ wr.heap.size _ ?_ _ hbo ?_); rfl; rfl; rfl; rfl)
      go_ret
      exact ⟨rfl, hfr.below (fun _ h => h.elim) (Nat.le_refl _)⟩
set_option maxRecDepth 100000 in
set_option maxHeartbeats 4000000 in
theorem refhex_any (w : World) (s : ByteArray) (hl : s.data.toList.length ≤ 35184372088832) :
    Calls Tryd.prog 22 #[.string s] w fun e w' => e = .returned (.string ⟨(Hexa.hex s.data.toList).toArray⟩) ∧ Below w.heap.size w w' := by
  obtain ⟨l, hs⟩ : ∃ l, s.data.toList = l := ⟨_, rfl⟩
  rw [hs] at hl ⊢
  have hsz : s.size = l.length := by rw [← hs]; rfl
  have hs' : Hid (s.data.toList = l) := hs
  clear hs
  have hmk : 2 * (l.length : Int) = ((2 * l.length : Nat) : Int) := by omega
  have hmk' : Hid (2 * (l.length : Int) = ((2 * l.length : Nat) : Int)) := hmk
  clear hmk
  go_enter Tryd.func22, Tryd.ntmps22
  go_wp2_with fail
  go_loopw [4, 5] (fun t3 t11 wr => ∃ k A c, k ≤ l.length ∧ t3 = .slice A (2 * k) c ∧ t11 = .int .i64 (k : Int) ∧ wr.ownsRow w.heap.size 5 1 (.slice A (2 * k) c) (2 * k) ((Hexa.hex (l.take k)).map u8v) ∧ Fr (fun _ => False) w wr) (fun _ t11 _ => l.length - (intOf t11).toNat)
  case atStart => exact ⟨0, none, 0, Nat.zero_le _, rfl, rfl, ⟨rfl, .inl ⟨rfl, rfl⟩⟩, Fr.refl _ _⟩
  case round =>
    obtain ⟨k, A, c, hk, rfl, rfl, hor, hfr⟩ := hrel
    by_cases hlt : k < l.length
    · obtain ⟨x, hx'⟩ : ∃ x, x = l.getD k 0 := ⟨_, rfl⟩
      have hht : Hid (Hexa.hex (l.take (k + 1)) = Hexa.hex (l.take k) ++ Hexa.two x) := by show _ = _; rw [hx']; exact Hexa.hex_take l k hlt
      obtain ⟨O, hO'⟩ : ∃ O, O = Hexa.hex (l.take k) := ⟨_, rfl⟩
      have hOl : O.length = 2 * k := by rw [hO', Hexa.length_hex, List.length_take]; omega
      rw [← hO'] at hor
      have hO : Hid (O = Hexa.hex (l.take k)) := hO'
      have hx : Hid (x = l.getD k 0) := hx'
      clear hx' hO'
      have hx16 : x.toNat / 16 < 16 := by have := x.toNat_lt; omega
      have hq16 : Hid (Value.int .u8 ((x.toNat : Int) / 16) = Value.int .u8 ((x.toNat / 16 : Nat) : Int)) := congrArg _ (by omega)
      have hm16 : x.toNat % 16 < 16 := by omega
      obtain ⟨d0, hd0'⟩ : ∃ d0, d0 = Hexa.digit (x.toNat / 16) := ⟨_, rfl⟩
      obtain ⟨d1, hd1'⟩ : ∃ d1, d1 = Hexa.digit (x.toNat % 16) := ⟨_, rfl⟩
      have hd0 : Hid (d0 = Hexa.digit (x.toNat / 16)) := hd0'
      have hd1 : Hid (d1 = Hexa.digit (x.toNat % 16)) := hd1'
      clear hd0' hd1'
      go_wp2_with fail
      refine wp_region_ord [0, 1, 2, 3, 4, 5, 6, 7, 8, 9, 10, 11, 12] [] [13, 14, 15] (by kernel_rfl) (by kernel_rfl) (fun _ _ _ _ _ h => h) ?_
      simp only [ordPick, Option.toList_some, List.cons_append, List.nil_append, List.getElem?_cons_succ, List.getElem?_cons_zero]
      iterate 4 (go_big_quiet_step (fail))
      refine wpq_index_string rfl 9 (.tmp 14) (.tmp 15) rfl rfl s l hs'.out .i64 k rfl rfl hlt ?_
      rw [← hx.out]
      simp only [Act.put, List.setIfInBounds_toArray, List.set_cons_succ, List.set_cons_zero, u8v]
      go_big_quiet_step (fail)
      refine wpq_index_string rfl 9 (.tmp 13) (.tmp 17) rfl rfl _ Hexa.digits rfl .u8 (x.toNat / 16) rfl hq16.out hx16 ?_
      rw [show Hexa.digits.getD (x.toNat / 16) 0 = d0 from hd0.out.symm]
      simp only [Act.put, List.setIfInBounds_toArray, List.set_cons_succ, List.set_cons_zero, u8v]
      iterate 3 (go_big_quiet_step (fail))
      refine wpq_index_string rfl 9 (.tmp 20) (.tmp 21) rfl rfl s l hs'.out .i64 k rfl rfl hlt ?_
      rw [← hx.out]
      simp only [Act.put, List.setIfInBounds_toArray, List.set_cons_succ, List.set_cons_zero, u8v]
      go_big_quiet_step (fail)
      refine wpq_index_string rfl 9 (.tmp 19) (.tmp 23) rfl rfl _ Hexa.digits rfl .u8 (x.toNat % 16) rfl rfl hm16 ?_
      rw [show Hexa.digits.getD (x.toNat % 16) 0 = d1 from hd1.out.symm]
      simp only [Act.put, List.setIfInBounds_toArray, List.set_cons_succ, List.set_cons_zero, u8v]
      refine wpQuiet_nil ?_
      refine wpQuiet_nil ?_
      have or4 : (wr.alloc (.cells #[.int .u8 (d0.toNat : Int), .int .u8 (d1.toNat : Int)] 5)).drew.ownsRow w.heap.size 5 1 (.slice A (2 * k) c) O.length (O.map u8v) := by rw [hOl]; exact own_new hor _
      have br4 : Bytes (wr.alloc (.cells #[.int .u8 (d0.toNat : Int), .int .u8 (d1.toNat : Int)] 5)).drew (wr.alloc (.cells #[.int .u8 (d0.toNat : Int), .int .u8 (d1.toNat : Int)] 5)).drew.heap.size (.slice (some ⟨wr.heap.size, 0, none⟩) 2 2) [d0, d1] := bytes_alloc wr 5 [d0, d1] #[.int .u8 (d0.toNat : Int), .int .u8 (d1.toNat : Int)] rfl (by simp [maxLen])
      have fr4 := (hfr.alloc (.cells #[.int .u8 (d0.toNat : Int), .int .u8 (d1.toNat : Int)] 5)).drew
      have hl4 : (O ++ [d0, d1]).length = 2 * (k + 1) := by simp [hOl]; omega
      have hs4 : O.length + [d0, d1].length ≤ 140737488355328 := by simp [hOl]; omega
      clear hOl
      go_wp2_with ((with_reducible refine wpl_append_sl _ rfl (.tmp 12) (.tmp 25) 22 rfl w.heap.size 5 ?_ ?_ _ ?_ O or4 _ _ ?_ [d0, d1] br4 hs4 fr4.size (2 * (k + 1)) hl4 ?_); rfl; kernel_rfl; rfl; rfl; intro R6 c6 w6 ho6 hg6 hb6)
      go_roundw
      case rel =>
        refine ⟨k + 1, R6, c6, hlt, rfl, by go_num, ?_, fr4.grown hg6 (fun g h => .inr (own_base or4 h))⟩
        rw [hht.out, ← hO.out, show Hexa.two x = [d0, d1] by rw [hd0.out, hd1.out]; rfl]; exact ho6
      case measure => simp [intOf]; omega
    · have hkl : Hid (k = l.length) := show k = l.length by omega
      have hbo : Bytes wr wr.heap.size (.slice A (2 * k) c) (Hexa.hex l) := by
        have e : l.take k = l := List.take_of_length_le (by have := hkl.out; omega)
        rw [e] at hor
        exact (own_rd hor).all
      go_wp2_with ((with_reducible refine wpl_string_bytes _ rfl 22 9 5 (.tmp 27) rfl ?_ ?_ ?_ wr.heap.size _ ?_ _ hbo ?_); rfl; rfl; rfl; rfl)
      go_ret
      exact ⟨rfl, hfr.below (fun _ h => h.elim) (Nat.le_refl _)⟩
end Go.Proofs.YtacbbfmjjfbpoaaDoor

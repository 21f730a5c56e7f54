/-
  The reference's HMAC.
-/
import Derived.Test.YtlofgcglnpjceaaDoorRefWire
import Derived.Test.YtlofgcglnpjceaaDoorTag
import Derived.Test.YtlofgcglnpjceaaDoorRefSum
namespace Go.Proofs.YtlofgcglnpjceaaDoor
open Go.RowKit Go.Pl
theorem mixed_succ (k : List UInt8) (x : UInt8) (j : Nat) (h : j < 64) (hk : k.length ≤ 64) :
    (Keyed.mixed k x).take (j + 1) = (Keyed.mixed k x).take j ++ [(k.getD j 0) ^^^ x] := by
  have hl := Keyed.length_mixed hk x
  rw [List.take_succ_eq_append_getElem (by omega)]
  congr 2
  simp only [Keyed.mixed, List.getElem_map, List.getElem_append]
  split
  · rename_i h1
    simp [h1]
  · rename_i h1
    simp [List.getD_eq_getElem?_getD, List.getElem?_eq_none (show k.length ≤ j by omega)]
@[go_sem high] theorem byte_0xor (t : TypeId) (b : UInt8) : binOp .xor t (.int .u8 0) (.int .u8 (b.toNat : Int)) = pure (.int .u8 (b.toNat : Int)) := by
  have h := byte_xor t 0 b
  rw [show (0 : UInt8) ^^^ b = b from UInt8.zero_xor] at h
  exact h
set_option maxRecDepth 100000 in
theorem refpad_short {A : Option Addr} {l c : Nat} {k : List UInt8} (x : UInt8) (w : World) (hA : Rd w (fun i => i < w.heap.size) A l c k) (hk : k.length ≤ 64) :
    Calls Tryd.prog 28 #[.slice A l c, .int .u8 (x.toNat : Int)] w fun e w' => Gave w (Keyed.mixed (Keyed.short k) x) e w' := by
  rw [Keyed.short_same hk]
  obtain rfl := hA.len
  have hkI : ¬ (64 : Int) < (k.length : Int) := by omega
  have o1 := own_alloc w (Nat.le_refl _) 5 [] #[] rfl rfl (by decide)
  have f1 : Fr (fun _ => False) w (w.alloc (.cells #[] 5)) := (Fr.refl (fun _ => False) w).alloc _
  have hA' := Lib.hid hA
  clear hA
  go_enter Tryd.func28, Tryd.ntmps28
  go_wp2_with fail
  go_loopw [6, 7] (fun t6 t7 wr => ∃ (j : Nat) (R : Option Addr) (cr : Nat), j ≤ 64 ∧ t6 = .slice R j cr ∧ t7 = .int .i64 (j : Int) ∧ wr.ownsRow w.heap.size 5 1 (.slice R j cr) j (((Keyed.mixed k x).take j).map u8v) ∧ Fr (fun _ => False) w wr) (fun _ t7 _ => 64 - (intOf t7).toNat)
  case atStart => exact ⟨0, _, _, by omega, rfl, rfl, by simpa using o1, f1⟩
  case round =>
    obtain ⟨j, R, cr, hj, rfl, rfl, hor, hfr⟩ := hrel
    clear o1 f1
    by_cases hlt : j < 64
    · have hltI : (j : Int) < 64 := by omega
      have hms := mixed_succ k x j hlt hk
      have hlm := Keyed.length_mixed hk x
      obtain ⟨O, hO⟩ : ∃ O, (Keyed.mixed k x).take j = O := ⟨_, rfl⟩
      have hOl : O.length = j := by rw [← hO, List.length_take]; omega
      rw [hO] at hor hms
      clear hO hlm
      have hor : wr.ownsRow w.heap.size 5 1 (.slice R j cr) O.length (O.map u8v) := by rw [hOl]; exact hor
      by_cases hjk : j < k.length
      · have hjI : (j : Int) < (k.length : Int) := by omega
        have hAr := hA'.out.fr (hfr.mono (F := fun _ => False) (fun i h => h.elim)) (fun _ _ h => h)
        obtain ⟨b, o, rfl, -, -, hc⟩ := hAr.at_ (by omega)
        have hcj := hc j hjk
        clear hAr hc
        obtain ⟨y, hy⟩ : ∃ y, k.getD j 0 = y := ⟨_, rfl⟩
        rw [hy] at hcj hms
        have hst : Hid ((O ++ [y ^^^ x]).map u8v = ((Keyed.mixed k x).take (j + 1)).map u8v) := by show _ = _; rw [hms]
        have hlo : Hid (O.length + [y ^^^ x].length ≤ 140737488355328) := by show _ ≤ _; simp; omega
        have hN : Hid ((O ++ [y ^^^ x]).length = j + 1) := by show _ = _; simp [hOl]
        clear hms hOl hy
        have o3 := own_alc hor (.cells #[.int .u8 ((y.toNat ^^^ x.toNat : Nat) : Int)] 5)
        have b3 := bytes_alloc wr 5 [y ^^^ x] #[.int .u8 ((y.toNat ^^^ x.toNat : Nat) : Int)] (by simp [u8v, UInt8.toNat_xor]) (by simp [maxLen])
        have e3 := hfr.alloc (.cells #[.int .u8 ((y.toNat ^^^ x.toNat : Nat) : Int)] 5)
        have hor' := Lib.hid hor
        clear hor
        go_wp2_with (first
          | ((with_reducible refine wpl_append_sl _ rfl (.tmp 29) (.tmp 33) 22 rfl w.heap.size 5 ?_ ?_ _ ?_ _ o3 _ _ ?_ [y ^^^ x] b3 hlo.out e3.size (j + 1) hN.out ?_); rfl; kernel_rfl; rfl; rfl; intro A5 c5 w5 ho5 hg5 hb5;
              have e5 := Lib.hid (e3.grown hg5 (fun k hk => .inr (own_base hor'.out hk)));
              have ho5' := Lib.hid ho5;
              clear hg5 ho5 hb5 o3 b3 e3))
        go_roundw
        case rel => exact ⟨j + 1, A5, c5, by omega, rfl, by go_num, hst.out ▸ ho5'.out, e5.out⟩
        case measure => simp [intOf]; omega
      · have hjI : ¬ (j : Int) < (k.length : Int) := by omega
        have hy : k.getD j 0 = 0 := by simp [List.getD_eq_getElem?_getD, List.getElem?_eq_none (show k.length ≤ j by omega)]
        rw [hy, UInt8.zero_xor] at hms
        have hst : Hid ((O ++ [x]).map u8v = ((Keyed.mixed k x).take (j + 1)).map u8v) := by show _ = _; rw [hms]
        have hlo : Hid (O.length + [x].length ≤ 140737488355328) := by show _ ≤ _; simp; omega
        have hN : Hid ((O ++ [x]).length = j + 1) := by show _ = _; simp [hOl]
        clear hms hOl hy
        have o3 := own_alc hor (.cells #[.int .u8 (x.toNat : Int)] 5)
        have b3 := bytes_alloc wr 5 [x] #[.int .u8 (x.toNat : Int)] rfl (by simp [maxLen])
        have e3 := hfr.alloc (.cells #[.int .u8 (x.toNat : Int)] 5)
        have hor' := Lib.hid hor
        clear hor
        go_wp2_with (first
          | ((with_reducible refine wpl_append_sl _ rfl (.tmp 29) (.tmp 33) 22 rfl w.heap.size 5 ?_ ?_ _ ?_ _ o3 _ _ ?_ [x] b3 hlo.out e3.size (j + 1) hN.out ?_); rfl; kernel_rfl; rfl; rfl; intro A5 c5 w5 ho5 hg5 hb5;
              have e5 := Lib.hid (e3.grown hg5 (fun k hk => .inr (own_base hor'.out hk)));
              have ho5' := Lib.hid ho5;
              clear hg5 ho5 hb5 o3 b3 e3))
        go_roundw
        case rel => exact ⟨j + 1, A5, c5, by omega, rfl, by go_num, hst.out ▸ ho5'.out, e5.out⟩
        case measure => simp [intOf]; omega
    · have hj64 : Hid (j = 64) := show j = 64 by omega
      have hge : ¬ (j : Int) < 64 := by omega
      go_wp2_with fail
      go_ret
      have hlm := Keyed.length_mixed hk x
      have e : (Keyed.mixed k x).take j = Keyed.mixed k x := List.take_of_length_le (by rw [hlm, hj64.out]; omega)
      rw [e] at hor
      exact ⟨R, j, cr, by rw [hlm, hj64.out], rfl, hor, hfr.below (fun _ h => h.elim) (Nat.le_refl _)⟩
set_option maxRecDepth 100000 in
theorem refpad_long {A : Option Addr} {l c : Nat} {q : List UInt8} (x : UInt8) (w : World) (hA : Rd w (fun i => i < w.heap.size) A l c q) (hq : 64 < q.length) (hql : q.length ≤ 70368744177664) :
    Calls Tryd.prog 28 #[.slice A l c, .int .u8 (x.toNat : Int)] w fun e w' => Gave w (Keyed.mixed (Keyed.short q) x) e w' := by
  have hsh : Keyed.short q = Sha.sha q := by unfold Keyed.short; rw [if_pos hq]
  have hsl := Sha.length_sha q
  obtain rfl := hA.len
  have hkI : (64 : Int) < (q.length : Int) := by omega
  rw [hsh]
  go_enter Tryd.func28, Tryd.ntmps28
  go_wp2_with fail
  refine (refsum_any _ (hA.mono (fun _ _ _ => trivial)) hql).mono ?_
  rintro e w1 ⟨rfl, hb1⟩
  obtain ⟨k, hkd⟩ : ∃ k, Sha.sha q = k := ⟨_, rfl⟩
  rw [hkd] at hsl ⊢
  have hkd' := Lib.hid hkd
  clear hkd hsh hA hkI hql hq
  have hk : k.length ≤ 64 := by omega
  have hm : k.length ≤ maxLen := by simp only [maxLen]; omega
  go_wp2_with (first
    | ((with_reducible refine wpl_bytes_str rfl 9 22 5 (.tmp 14) rfl ?_ ?_ ?_ k ?_ hm ?_); rfl; rfl; rfl; rfl; intro c2 w2 hd2 hg2;
        have hb2 := hb1.grown hg2 hb1.size (fun k hk => by cases hk);
        have hA' := Lib.hid hd2.rd;
        have o1 := own_alloc w2 (Nat.le_refl _) 5 [] #[] rfl rfl (by decide);
        have f1 : Fr (fun _ => False) w2 (w2.alloc (.cells #[] 5)) := (Fr.refl (fun _ => False) w2).alloc _))
  obtain ⟨Z, hZ⟩ : ∃ Z, (some ⟨w1.heap.size, 0, none⟩ : Option Addr) = Z := ⟨_, rfl⟩
  rw [hZ] at hA' ⊢
  clear hd2 hg2 hm hZ
  go_loopw [6, 7] (fun t6 t7 wr => ∃ (j : Nat) (R : Option Addr) (cr : Nat), j ≤ 64 ∧ t6 = .slice R j cr ∧ t7 = .int .i64 (j : Int) ∧ wr.ownsRow w2.heap.size 5 1 (.slice R j cr) j (((Keyed.mixed k x).take j).map u8v) ∧ Fr (fun _ => False) w2 wr) (fun _ t7 _ => 64 - (intOf t7).toNat)
  case atStart => exact ⟨0, _, _, by omega, rfl, rfl, by simpa using o1, f1⟩
  case round =>
    obtain ⟨j, R, cr, hj, rfl, rfl, hor, hfr⟩ := hrel
    clear o1 f1
    by_cases hlt : j < 64
    · have hltI : (j : Int) < 64 := by omega
      have hms := mixed_succ k x j hlt hk
      have hlm := Keyed.length_mixed hk x
      obtain ⟨O, hO⟩ : ∃ O, (Keyed.mixed k x).take j = O := ⟨_, rfl⟩
      have hOl : O.length = j := by rw [← hO, List.length_take]; omega
      rw [hO] at hor hms
      clear hO hlm
      have hor : wr.ownsRow w2.heap.size 5 1 (.slice R j cr) O.length (O.map u8v) := by rw [hOl]; exact hor
      by_cases hjk : j < k.length
      · have hjI : (j : Int) < (k.length : Int) := by omega
        have hAr := hA'.out.fr (hfr.mono (F := fun _ => False) (fun i h => h.elim)) (fun _ _ h => h)
        obtain ⟨b, o, rfl, -, -, hc⟩ := hAr.at_ (by omega)
        have hcj := hc j hjk
        clear hAr hc
        obtain ⟨y, hy⟩ : ∃ y, k.getD j 0 = y := ⟨_, rfl⟩
        rw [hy] at hcj hms
        have hst : Hid ((O ++ [y ^^^ x]).map u8v = ((Keyed.mixed k x).take (j + 1)).map u8v) := by show _ = _; rw [hms]
        have hlo : Hid (O.length + [y ^^^ x].length ≤ 140737488355328) := by show _ ≤ _; simp; omega
        have hN : Hid ((O ++ [y ^^^ x]).length = j + 1) := by show _ = _; simp [hOl]
        clear hms hOl hy
        have o3 := own_alc hor (.cells #[.int .u8 ((y.toNat ^^^ x.toNat : Nat) : Int)] 5)
        have b3 := bytes_alloc wr 5 [y ^^^ x] #[.int .u8 ((y.toNat ^^^ x.toNat : Nat) : Int)] (by simp [u8v, UInt8.toNat_xor]) (by simp [maxLen])
        have e3 := hfr.alloc (.cells #[.int .u8 ((y.toNat ^^^ x.toNat : Nat) : Int)] 5)
        have hor' := Lib.hid hor
        clear hor
        go_wp2_with (first
          | ((with_reducible refine wpl_append_sl _ rfl (.tmp 29) (.tmp 33) 22 rfl w2.heap.size 5 ?_ ?_ _ ?_ _ o3 _ _ ?_ [y ^^^ x] b3 hlo.out e3.size (j + 1) hN.out ?_); rfl; kernel_rfl; rfl; rfl; intro A5 c5 w5 ho5 hg5 hb5;
              have e5 := Lib.hid (e3.grown hg5 (fun k hk => .inr (own_base hor'.out hk)));
              have ho5' := Lib.hid ho5;
              clear hg5 ho5 hb5 o3 b3 e3))
        go_roundw
        case rel => exact ⟨j + 1, A5, c5, by omega, rfl, by go_num, hst.out ▸ ho5'.out, e5.out⟩
        case measure => simp [intOf]; omega
      · have hjI : ¬ (j : Int) < (k.length : Int) := by omega
        have hy : k.getD j 0 = 0 := by simp [List.getD_eq_getElem?_getD, List.getElem?_eq_none (show k.length ≤ j by omega)]
        rw [hy, UInt8.zero_xor] at hms
        have hst : Hid ((O ++ [x]).map u8v = ((Keyed.mixed k x).take (j + 1)).map u8v) := by show _ = _; rw [hms]
        have hlo : Hid (O.length + [x].length ≤ 140737488355328) := by show _ ≤ _; simp; omega
        have hN : Hid ((O ++ [x]).length = j + 1) := by show _ = _; simp [hOl]
        clear hms hOl hy
        have o3 := own_alc hor (.cells #[.int .u8 (x.toNat : Int)] 5)
        have b3 := bytes_alloc wr 5 [x] #[.int .u8 (x.toNat : Int)] rfl (by simp [maxLen])
        have e3 := hfr.alloc (.cells #[.int .u8 (x.toNat : Int)] 5)
        have hor' := Lib.hid hor
        clear hor
        go_wp2_with (first
          | ((with_reducible refine wpl_append_sl _ rfl (.tmp 29) (.tmp 33) 22 rfl w2.heap.size 5 ?_ ?_ _ ?_ _ o3 _ _ ?_ [x] b3 hlo.out e3.size (j + 1) hN.out ?_); rfl; kernel_rfl; rfl; rfl; intro A5 c5 w5 ho5 hg5 hb5;
              have e5 := Lib.hid (e3.grown hg5 (fun k hk => .inr (own_base hor'.out hk)));
              have ho5' := Lib.hid ho5;
              clear hg5 ho5 hb5 o3 b3 e3))
        go_roundw
        case rel => exact ⟨j + 1, A5, c5, by omega, rfl, by go_num, hst.out ▸ ho5'.out, e5.out⟩
        case measure => simp [intOf]; omega
    · have hj64 : Hid (j = 64) := show j = 64 by omega
      have hge : ¬ (j : Int) < 64 := by omega
      go_wp2_with fail
      go_ret
      have hlm := Keyed.length_mixed hk x
      have e : (Keyed.mixed k x).take j = Keyed.mixed k x := List.take_of_length_le (by rw [hlm, hj64.out]; omega)
      rw [e] at hor
      rw [hkd'.out]
      exact ⟨R, j, cr, by rw [hlm, hj64.out], rfl, own_low hor hb2.size, hb2.trans (hfr.below (fun _ h => h.elim) hb2.size)⟩
theorem refpad_any {A : Option Addr} {l c : Nat} {k : List UInt8} (x : UInt8) (w : World) (hA : Rd w (fun _ => True) A l c k) (hk : k.length ≤ 70368744177664) :
    Calls Tryd.prog 28 #[.slice A l c, .int .u8 (x.toNat : Int)] w fun e w' => Gave w (Keyed.mixed (Keyed.short k) x) e w' := by
  have hA' : Rd w (fun i => i < w.heap.size) A l c k := hA.mono (fun i hi _ => hi)
  by_cases h : k.length ≤ 64
  · exact refpad_short x w hA' h
  · exact refpad_long x w hA' (by omega) hk
set_option maxRecDepth 100000 in
set_option maxHeartbeats 2000000 in
theorem reftag_any {A1 A2 : Option Addr} {n1 c1 n2 c2 : Nat} {k m : List UInt8} (w : World) (h1 : Rd w (fun _ => True) A1 n1 c1 k) (h2 : Rd w (fun _ => True) A2 n2 c2 m) (hlk : k.length ≤ 1000000) (hlm : m.length ≤ 1000000) :
    Calls Tryd.prog 13 #[.slice A1 n1 c1, .slice A2 n2 c2] w fun e w' => Digged w (Keyed.tag k m) e w' := by
  have h1' : Rd w (fun i => i < w.heap.size) A1 n1 c1 k := h1.mono (fun i hi _ => hi)
  have h2' : Rd w (fun i => i < w.heap.size) A2 n2 c2 m := h2.mono (fun i hi _ => hi)
  have hl54 := Keyed.length_mixed (Keyed.short_le k) 54
  have hl92 := Keyed.length_mixed (Keyed.short_le k) 92
  have hET : Hid (Keyed.tag k m = Sha.sha (Keyed.mixed (Keyed.short k) 92 ++ Sha.sha (Keyed.mixed (Keyed.short k) 54 ++ m))) := by show _ = _; rw [Keyed.tag]
  have hp54 := fun w' h => refpad_any (A := A1) (l := n1) (c := c1) (k := k) 54 w' h (by omega)
  have hp92 := fun w' h => refpad_any (A := A1) (l := n1) (c := c1) (k := k) 92 w' h (by omega)
  obtain ⟨X, hX⟩ : ∃ X, Keyed.mixed (Keyed.short k) 54 = X := ⟨_, rfl⟩
  obtain ⟨Y, hY⟩ : ∃ Y, Keyed.mixed (Keyed.short k) 92 = Y := ⟨_, rfl⟩
  rw [hX] at hl54 hET hp54
  rw [hY] at hl92 hET hp92
  have hX' := Lib.hid hX
  have hY' := Lib.hid hY
  clear hX hY
  have hb2 := fun w' (hb : Below w.heap.size w w') => (h2'.keep (w' := w') hb.size (fun q hq _ => hb.cell hq)).all
  have hlo : Hid (X.length + m.length ≤ 140737488355328) := by show _ ≤ _; omega
  have hlo2 : Hid ((X ++ m).length ≤ 70368744177664) := by show _ ≤ _; simp; omega
  have hb2' := Lib.hid hb2
  have hp92' := Lib.hid hp92
  have hl92' := Lib.hid hl92
  clear hb2 hp92 hl92
  go_enter Tryd.func13, Tryd.ntmps13
  go_wp2_with fail
  refine (hp54 _ h1).mono ?_
  rintro e w1 ⟨A3, n3, c3, hn3, rfl, ho1, hb1⟩
  subst hn3
  clear hp54 h1 h2 h2' hl54
  have hbm := hb2'.out w1 hb1
  obtain ⟨N, hN⟩ : ∃ N, Hid ((X ++ m).length = N) := ⟨_, rfl⟩
  go_wp2_with (first
    | ((with_reducible refine wpl_append_sl _ rfl (.tmp 7) (.tmp 8) 22 rfl w.heap.size 5 ?_ ?_ _ ?_ _ ho1 _ _ ?_ m hbm hlo.out hb1.size N hN.out ?_); rfl; kernel_rfl; rfl; rfl; intro A5 c5 w5 ho5 hg5 hb5;
        have e5 := hb1.grown hg5 hb1.size (fun k hk => own_base ho1 hk);
        have r5 : Rd w5 (fun _ => True) A5 N c5 (X ++ m) := (own_rd ho5).mono (fun _ _ _ => trivial);
        clear hg5 ho5 hb5 ho1 hbm))
  refine (refsum_any _ r5 hlo2.out).mono ?_
  rintro e w6 ⟨rfl, hb6'⟩
  have hb6 := e5.trans (hb6'.mono e5.size)
  clear hb6' r5 e5 hb1 hlo hlo2
  obtain ⟨D, hD⟩ : ∃ D, Sha.sha (X ++ m) = D := ⟨_, rfl⟩
  have hDl : D.length = 32 := by rw [← hD]; exact Sha.length_sha _
  rw [hD] at hET ⊢
  have hDl' := Lib.hid hDl
  clear hD hDl
  go_wp2_with fail
  refine (hp92'.out _ ((h1'.keep (w' := w6) hb6.size (fun q hq _ => hb6.cell hq)).mono (fun _ _ _ => trivial))).mono ?_
  rintro e w7 ⟨A7, n7, c7, hn7, rfl, ho7, hb7'⟩
  subst hn7
  have hb7 := hb6.trans (hb7'.mono hb6.size)
  have ho7 := own_low ho7 hb6.size
  have hlo : Hid (Y.length + D.length ≤ 140737488355328) := by have := hl92'.out; have := hDl'.out; show _ ≤ _; omega
  have hlo2 : Hid ((Y ++ D).length ≤ 70368744177664) := by have := hl92'.out; have := hDl'.out; show _ ≤ _; simp; omega
  clear hb6 hb7' hp92' h1'
  obtain ⟨M, hM⟩ : ∃ M, Hid ((Y ++ D).length = M) := ⟨_, rfl⟩
  go_wp2_with (first
    | ((with_reducible refine wpl_append_str rfl (.tmp 12) (.tmp 13) 22 9 rfl w.heap.size 5 ?_ ?_ ?_ _ ?_ Y ho7 D ?_ hlo.out hb7.size M hM.out ?_); rfl; rfl; kernel_rfl; rfl; rfl; intro A8 c8 w8 ho8 hg8;
        have e8 := hb7.grown hg8 hb7.size (fun k hk => own_base ho7 hk);
        have r8 : Rd w8 (fun _ => True) A8 M c8 (Y ++ D) := (own_rd ho8).mono (fun _ _ _ => trivial);
        clear hg8 ho8 ho7))
  refine (refsum_any _ r8 hlo2.out).mono ?_
  rintro e w9 ⟨rfl, hb9'⟩
  have hb9 := e8.trans (hb9'.mono e8.size)
  clear hb9' r8 e8 hb7 hlo hlo2
  obtain ⟨T, hT⟩ : ∃ T, Sha.sha (Y ++ D) = T := ⟨_, rfl⟩
  have hTl : T.length = 32 := by rw [← hT]; exact Sha.length_sha _
  rw [hT] at hET ⊢
  have hm : T.length ≤ maxLen := by rw [hTl]; simp [maxLen]
  have hs := Lib.hid hb9.size
  clear hT hTl
  go_wp2_with (first
    | ((with_reducible refine wpl_bytes_str rfl 9 22 5 (.tmp 15) rfl ?_ ?_ ?_ T ?_ hm ?_); rfl; rfl; rfl; rfl; intro c10 w10 hd10 hg10;
        have hb10 := hb9.grown hg10 hs.out (fun k hk => by cases hk)))
  go_ret
  exact ⟨w9.heap.size, T.length, c10, by rw [hET.out], rfl, hs.out, by rw [hET.out]; exact hd10, hb10⟩
end Go.Proofs.YtlofgcglnpjceaaDoor

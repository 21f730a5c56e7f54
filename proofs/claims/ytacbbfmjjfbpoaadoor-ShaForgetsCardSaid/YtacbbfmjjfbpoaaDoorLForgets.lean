/-
  A state does not keep the slices that were written to it.
-/
import Derived.Test.YtacbbfmjjfbpoaaDoorLClones
namespace Go.Pl
theorem byte_xor (t : TypeId) (x y : UInt8) : binOp .xor t (.int .u8 (x.toNat : Int)) (.int .u8 (y.toNat : Int)) = pure (.int .u8 ((x ^^^ y).toNat : Int)) := by
  show Op.intBits .xor .u8 (x.toNat : Int) (y.toNat : Int) = _
  rw [intBits_xor]
  show pure (Value.int .u8 (IntKind.u8.wrap ((BitVec.ofInt 8 (x.toNat : Int) ^^^ BitVec.ofInt 8 (y.toNat : Int)).toNat : Int))) = _
  have hx : BitVec.ofInt 8 (x.toNat : Int) = x.toBitVec := by rw [BitVec.ofInt_natCast]; exact BitVec.ofNat_toNat 8 x.toBitVec |>.trans (BitVec.setWidth_eq _)
  have hy : BitVec.ofInt 8 (y.toNat : Int) = y.toBitVec := by rw [BitVec.ofInt_natCast]; exact BitVec.ofNat_toNat 8 y.toBitVec |>.trans (BitVec.setWidth_eq _)
  rw [hx, hy]
  have h : (x ^^^ y).toNat = (x.toBitVec ^^^ y.toBitVec).toNat := rfl
  rw [← h, IntKind.wrap_u8]
  have := (x ^^^ y).toNat_lt
  congr 2
  omega
end Go.Pl
namespace Go.Proofs.YtacbbfmjjfbpoaaDoor.shaForgets
open Go.ChangeShapes Go.WideShapes Go.ChangeAt Go.RowKit Go.Pl
set_option maxRecDepth 100000 in
set_option maxHeartbeats 2000000 in
theorem walk {A0 A1 : Option Addr} {n0 c0 n1 c1 : Nat} {bs0 bs1 : List UInt8} (w : World) (hK : Kst w) (hA : Rd w (fun _ => True) A0 n0 c0 bs0) (hB : Rd w (fun _ => True) A1 n1 c1 bs1) :
    Calls Tryd.prog 7 #[.slice A0 n0 c0, .slice A1 n1 c1] w fun e w' => e = .returned (.bool true) ∧ Below w.heap.size w w' := by
  obtain rfl := hA.len
  obtain rfl := hB.len
  have hA' : Rd w (fun i => i < w.heap.size) A0 bs0.length c0 bs0 := hA.mono (fun i hi _ => hi)
  have hB' : Rd w (fun i => i < w.heap.size) A1 bs1.length c1 bs1 := hB.mono (fun i hi _ => hi)
  clear hA hB
  have hKp := hK.pos
  by_cases h0 : 1000 < bs0.length
  · go_enter Tryd.func7, Tryd.ntmps7
    go_wp2_with (go_at_call 10; refine (awake_any _ hK).mono ?_; rintro e w1 ⟨rfl, hb1⟩)
    go_ret
    exact ⟨rfl, hb1⟩
  by_cases h1 : 1000 < bs1.length
  · go_enter Tryd.func7, Tryd.ntmps7
    go_wp2_with (go_at_call 10; refine (awake_any _ hK).mono ?_; rintro e w1 ⟨rfl, hb1⟩)
    go_ret
    exact ⟨rfl, hb1⟩
  have l0 : bs0.length ≤ 1000 := by omega
  have l1 : bs1.length ≤ 1000 := by omega
  clear h0 h1
  obtain ⟨X, hX'⟩ : ∃ X, bs0 ++ bs1 = X := ⟨_, rfl⟩
  have lX : X.length ≤ 2000 := by rw [← hX']; simp; omega
  have hX : Hid (bs0 ++ bs1 = X) := hX'
  clear hX'
  have hxor : ∀ b : UInt8, binOp .xor 5 (.int .u8 (b.toNat : Int)) (.int .u8 255) = pure (.int .u8 ((b ^^^ 255).toNat : Int)) := fun b => byte_xor _ b 255
  go_enter Tryd.func7, Tryd.ntmps7
  go_wp2_with fail
  refine (awake_any _ hK).mono ?_
  rintro e w1 ⟨rfl, hb1⟩
  have hA1 := hA'.up hb1
  have hB1 := hB'.up hb1
  have hK1 := hK.below hb1 hKp
  have hsz1 := hb1.size
  have o1 := own_alloc w1 (Nat.le_refl _) 5 [] #[] rfl rfl (by decide)
  have f1 : Fr (fun _ => False) w1 (w1.alloc (.cells #[] 5)) := (Fr.refl (fun _ => False) w1).alloc _
  have a1 := (hA1.fr f1 (fun _ _ h => h)).all
  go_wp2_with ((with_reducible refine wpl_append_sl _ rfl (.tmp 18) (.tmp 19) 22 rfl w1.heap.size 5 ?_ ?_ _ ?_ [] o1 _ _ ?_ bs0 a1 (by simp; omega) f1.size bs0.length rfl ?_); rfl; kernel_rfl; rfl; rfl; intro A2 c2 w2 ho2 hg2 hz2)
  have f2 := f1.grown hg2 (fun g h => .inr (by have : w1.heap.size = g := Option.some.inj h; omega))
  have hb2a := hb1.trans (f2.below (B := w.heap.size) (fun _ h => h.elim) hb1.size)
  have hA2 := hA1.fr f2 (fun _ _ h => h)
  have hB2 := hB1.fr f2 (fun _ _ h => h)
  have hK2 := hK.below hb2a hKp
  have hsz2 := f2.size
  rw [List.nil_append] at ho2
  have hlt2 := ho2.lt
  clear o1 f1 a1 hg2 hz2 f2 hA1 hB1 hK1
  refine (new_any _).mono ?_
  rintro e w3 ⟨p, rfl, hS3, hb3⟩
  have hb3a := hb2a.trans (hb3.mono hb2a.size)
  have hK3 := hK.below hb3a hKp
  have hA3 := hA2.up hb3
  have hB3 := hB2.up hb3
  have ho3 := own_below ho2 hb3
  have hX3 := own_rd ho3
  have hp3 := hS3.lt
  have hp2 := hS3.1
  have hsz3 := hb3.size
  clear hA2 hB2 hK2 ho2
  go_wp2_with fail
  refine (write_any _ (by omega) hK3 hS3 (hX3.mono (T := fun i => i ≠ p ∧ (none : Option Nat) ≠ some i) (fun i _ h => ⟨(by have := hlt2 i h; omega), (by simp)⟩)) (by simp; omega)).mono ?_
  rintro e w4 ⟨rfl, r4, hS4, hf4, hr4⟩
  rw [List.nil_append] at hS4
  have F4 : ∀ i, (i = p ∨ (none : Option Nat) = some i) → w2.heap.size ≤ i := fun i h => h.elim (fun e => by omega) (fun e => by cases e)
  have hr4' : ∀ g, r4 = some g → w3.heap.size ≤ g := fun g hg => by
    rcases hr4 with h | h
    · rw [h] at hg; cases hg
    · exact h g hg
  have hb4a := hb3a.trans (hf4.below (B := w.heap.size) (fun i h => by have := F4 i h; omega) hb3a.size)
  have hK4 := hK.below hb4a hKp
  have hA4 := hA3.fr hf4 (fun i hi hF => by have := F4 i hF; omega)
  have hB4 := hB3.fr hf4 (fun i hi hF => by have := F4 i hF; omega)
  have ho4 := own_fr ho3 hf4 (fun g hg hF => by have := F4 g hF; have := hlt2 g hg; omega)
  have hsz4 := hf4.size
  clear hA3 hB3 hK3 ho3 hX3 hS3 hf4 hr4 F4
  go_wp2_with fail
  have hN9 : bs0.length ≤ 9223372036854775807 := by omega
  go_loopw [7] (fun i wr => ∃ k : Nat, k ≤ bs0.length ∧ i = .int .i64 (k : Int) ∧ Fr (fun g => (Value.slice A2 bs0.length c2).ownBlock = some g) w4 wr ∧ ∃ xs : List UInt8, xs.length = bs0.length ∧ wr.ownsRow w1.heap.size 5 1 (.slice A2 bs0.length c2) bs0.length (xs.map u8v)) (fun i _ => bs0.length - (intOf i).toNat)
  case atStart => exact ⟨0, Nat.zero_le _, rfl, Fr.refl _ _, bs0, rfl, ho4⟩
  case round =>
    obtain ⟨k, hk, rfl, hfr, xs, hxl, hor⟩ := hrel
    by_cases hlt : k < bs0.length
    · have hxl' : Hid (xs.length = bs0.length) := hxl
      have hor' := hor
      rcases hor.2 with ⟨hnil, _⟩ | ⟨g, cap, cur, heq, hbase, hblk, hnc, hcm, hcs, htk⟩
      · have : bs0.length = 0 := by injection hnil
        omega
      · have he1 : A2 = some ⟨g, 0, none⟩ := by injection heq
        have he2 : c2 = cap := by injection heq
        subst he1 he2
        have hcell : wr.cell? ⟨g, k, none⟩ = some (.int .u8 ((xs.getD k 0).toNat : Int)) := by
          have := World.ownsRow.cells hor (g := g) rfl k _ (u8v_get xs k (by omega))
          rwa [add_none, Nat.zero_add] at this
        obtain ⟨b, hb⟩ : ∃ b, xs.getD k 0 = b := ⟨_, rfl⟩
        rw [hb] at hcell
        have hfz : wr.frozen? ⟨g, k, none⟩ = false := Blk.frozen (show Blk wr g 5 cur from hblk) k
        have hst : (wr.setCell ⟨g, k, none⟩ (.int .u8 ((b ^^^ 255).toNat : Int))).ownsRow w1.heap.size 5 1 (.slice (some ⟨g, 0, none⟩) bs0.length c2) bs0.length ((xs.set k (b ^^^ 255)).map u8v) := by
          refine ⟨by simp [hxl], .inr ⟨g, c2, cur.setIfInBounds k (.int .u8 ((b ^^^ 255).toNat : Int)), rfl, hbase, Blk.set_ (show Blk wr g 5 cur from hblk) k _, hnc, hcm, by simpa using hcs, ?_⟩⟩
          rw [Array.toList_setIfInBounds, List.take_set, htk, List.map_set]
          rfl
        have hfw := hfr.setCell (p := ⟨g, k, none⟩) (.inl rfl) (.int .u8 ((b ^^^ 255).toNat : Int))
        clear hb htk hcs hblk hor hor' heq hxl
        go_wp2_with fail
        go_roundw
        case rel => exact ⟨k + 1, hlt, by go_num, hfw, _, by simp [hxl'.out], hst⟩
        case measure => simp [intOf]; omega
    · have hb5a := hb4a.trans (hfr.below (B := w.heap.size) (fun g h => by have := hlt2 g h; omega) hb4a.size)
      have hK5 := hK.below hb5a hKp
      have hB5 := hB4.fr hfr (fun i hi hF => by have := hlt2 i hF; omega)
      have hA5 := hA4.fr hfr (fun i hi hF => by have := hlt2 i hF; omega)
      have hS5 := hS4.fr hfr (fun hF => by have := hlt2 p hF; omega) (fun g hg hF => by have := hr4' g hg; have := hlt2 g hF; omega)
      have hsz5 := hfr.size
      clear hor hxl hA4 hB4 hK4 hS4 hfr ho4
      go_wp2_with fail
      refine (write_any _ (by omega) hK5 hS5 (hB5.mono (T := fun i => i ≠ p ∧ r4 ≠ some i) (fun i _ h => ⟨(by omega), (fun e => by have := hr4' i e; omega)⟩)) (by omega)).mono ?_
      rintro e w6 ⟨rfl, r6, hS6, hf6, hr6⟩
      rw [hX.out] at hS6
      have F6 : ∀ i, (i = p ∨ r4 = some i) → w2.heap.size ≤ i := fun i h => h.elim (fun e => by omega) (fun e => by have := hr4' i e; omega)
      have hb6a := hb5a.trans (hf6.below (B := w.heap.size) (fun i h => by have := F6 i h; omega) hb5a.size)
      have hK6 := hK.below hb6a hKp
      have hA6 := hA5.fr hf6 (fun i hi hF => by have := F6 i hF; omega)
      have hB6 := hB5.fr hf6 (fun i hi hF => by have := F6 i hF; omega)
      clear hA5 hB5 hK5 hS5 hf6 hr6
      go_wp2_with fail
      refine (sumst_any _ hK6 hS6 (by omega)).mono ?_
      rintro e w7 ⟨rfl, hb7⟩
      have hb7a := hb6a.trans (hb7.mono hb6a.size)
      have hA7 := hA6.up hb7
      have hB7 := hB6.up hb7
      have o7 := own_alloc w7 (Nat.le_refl _) 5 [] #[] rfl rfl (by decide)
      have f7 : Fr (fun _ => False) w7 (w7.alloc (.cells #[] 5)) := (Fr.refl (fun _ => False) w7).alloc _
      have a7 := (hA7.fr f7 (fun _ _ h => h)).all
      clear hA6 hB6 hK6 hS6
      go_wp2_with (first
        | ((with_reducible refine wpl_append_sl _ rfl (.tmp 42) (.tmp 43) 22 rfl w7.heap.size 5 ?_ ?_ _ ?_ [] o7 _ _ ?_ bs0 a7 (by simp; omega) f7.size bs0.length rfl ?_); rfl; kernel_rfl; rfl; rfl; intro A8 c8 w8 ho8 hg8 hz8;
              have f8 := f7.grown hg8 (fun g h => .inr (by have : w7.heap.size = g := Option.some.inj h; omega));
              have b8 := (hB7.fr f8 (fun _ _ h => h)).all)
        | ((with_reducible refine wpl_append_sl _ rfl (.tmp 44) (.tmp 45) 22 rfl w7.heap.size 5 ?_ ?_ _ ?_ bs0 ho8 _ _ ?_ bs1 b8 (by omega) f8.size X.length (congrArg List.length hX.out) ?_); rfl; kernel_rfl; rfl; rfl; intro A9 c9 w9 ho9 hg9 hz9; rw [hX.out] at ho9;
              have f9 := f8.grown hg9 (fun g h => .inr (own_base ho8 h))))
      have hb9a := hb7a.trans (f9.below (B := w.heap.size) (fun _ h => h.elim) hb7a.size)
      have hK9 := hK.below hb9a hKp
      refine (sum_any _ hK9 ((own_rd ho9).mono (T := fun _ => True) (fun _ _ _ => trivial)) (by omega)).mono ?_
      rintro e w10 ⟨rfl, hb10⟩
      have hb10a := hb9a.trans (hb10.mono hb9a.size)
      go_wp2_with fail
      go_ret
      exact ⟨rfl, hb10a⟩
theorem table {W : World} (h : laidMetH Tryd.prog Rows.shaForgetsRow.laid W) : Lib.TabIs Tryd.prog W "plexus/sha256.constants" .u32 (Sha.K.map fun (n : Nat) => (n : Int)) :=
  Lib.tabIs_of_head (rest := []) gTab gTabType Tryd.underlying54 Tryd.underlying41 cellsWord cellsTab h
theorem contract (H : Type) (enc : TypeId × Value → H) (W : World) (base : Nat) (args : Array Value) (ds gs : List (DataW H)) (before : List MemPlace)
    (hval : ∀ (j : Nat) t v, Tryd.f7.params[j]? = some t → args[j]? = some v → Value.okWide Tryd.prog W .any base t v)
    (hW : DataW.Whole enc Tryd.prog Tryd.f7.params.toList Rows.shaForgetsSpec.vars false W args.toList ds gs before) (hL : laidMetH Tryd.prog Rows.shaForgetsRow.laid W) :
    Calls Tryd.prog 7 args W fun e W' => ∃ v, e = .returned v ∧ Rows.shaForgetsSpec.post enc Tryd.prog Tryd.f7 false true false false W args v W' := by
  have hW' := hW
  obtain ⟨p, q, hA0, hV, rfl, hfz, hnd⟩ := hW
  have hA : DataW.TrodAll enc Tryd.prog W 0 (fun _ => true) true Tryd.f7.params.toList args.toList ds p := hA0
  rw [Tryd.params7] at hA hval
  obtain ⟨v0, vs0, d0, ds0, p0, q0, hargs, rfl, rfl, h0, r0⟩ := trodAll_cons hA
  obtain ⟨v1, vs1, d1, ds1, p1, q1, rfl, rfl, rfl, h1, r1⟩ := trodAll_cons r0
  obtain ⟨rfl, rfl, rfl⟩ := trodAll_nil r1
  obtain rfl : args = #[v0, v1] := by cases args; simp_all
  obtain ⟨rfl, rfl⟩ := trodVars_none hV
  obtain ⟨a0, len0, cap0, rfl⟩ := okWide_slice Tryd.underlying22 (hval 0 22 v0 rfl rfl)
  obtain ⟨a1, len1, cap1, rfl⟩ := okWide_slice Tryd.underlying22 (hval 1 22 v1 rfl rfl)
  have k0 := h0
  have lt0 : ∀ x ∈ p0, x.block < W.heap.size := by obtain ⟨m, hm⟩ := k0; exact DataW.trod_lt m _ _ _ hm
  obtain ⟨z0, w0⟩ := isRow_of_trod Tryd.underlying22 Tryd.underlying5 (by kernel_rfl) h0
  obtain ⟨bs0, hrd0⟩ := rd_of_row w0
  have k1 := h1
  have lt1 : ∀ x ∈ p1, x.block < W.heap.size := by obtain ⟨m, hm⟩ := k1; exact DataW.trod_lt m _ _ _ hm
  obtain ⟨z1, w1⟩ := isRow_of_trod Tryd.underlying22 Tryd.underlying5 (by kernel_rfl) h1
  obtain ⟨bs1, hrd1⟩ := rd_of_row w1
  clear hA0
  refine (walk W (kst_of_tab (table hL)) hrd0 hrd1).mono fun e W' ⟨he, bel⟩ => ?_
  subst he
  exact ⟨_, rfl, _, _, _, [], _, [], hW', trodAll_mk1 (shut_bool Tryd.underlying4 _), (trodAll_cons_mk (Below.trod laidOut (by kernel_rfl) (of_decide_eq_true (by kernel_rfl)) k0 bel lt0) (trodAll_cons_mk (Below.trod laidOut (by kernel_rfl) (of_decide_eq_true (by kernel_rfl)) k1 bel lt1) trodAll_mk0)), rfl, bel.frame _, fun h => by cases h⟩
theorem laid_met (os : Os) : laidMet Tryd.prog Rows.shaForgetsRow.laid ((laidWorld os).forCall (fun _ _ => 0) ⟨#[], #[.slice none 0 0, .slice none 0 0], []⟩).memory :=
  laidMet_of_run' 8 (by kernel_rfl) (by kernel_rfl)
theorem reads (os : Os) {H : Type} (enc : TypeId × Value → H) : ∃ places, DataW.whole enc Tryd.prog ((laidWorld os).forCall (fun _ _ => 0) ⟨#[], #[.slice none 0 0, .slice none 0 0], []⟩).memory Tryd.f7.params.toList Rows.shaForgetsSpec.vars false #[Value.slice none 0 0, .slice none 0 0].toList 8 = some ([.nil, .nil], [], places) :=
  ⟨[], by kernel_rfl⟩
set_option maxRecDepth 100000 in
theorem lifted (os : Os) (started : os.Started) (H : Type) (enc : TypeId × Value → H) (F : Stop.Interp) :
    ReturnsInHanded {} Tryd.checked os 7 .any ((OpenSpec.ofChange Rows.shaForgetsSpec).preRow enc Tryd.prog Tryd.f7 Rows.shaForgetsRow.domain false Rows.shaForgetsRow.laid) (((OpenSpec.ofChange Rows.shaForgetsSpec).at F).post enc Tryd.prog Tryd.f7 false true false false) := by
  obtain ⟨places, hx⟩ := reads os enc
  refine returnsInHanded_of_row (C := Tryd.checked) (s := OpenSpec.ofChange Rows.shaForgetsSpec) own started (by kernel_rfl) Tryd.func7
    (witness_row_at (enc := enc) (C := Tryd.checked) false (laidWorld os) #[.slice none 0 0, .slice none 0 0] rfl (by kernel_rfl) (by kernel_rfl) (by kernel_rfl)
      (OpenSpec.preRow_of_cond 8 hx (by kernel_rfl) (fun k hk => by cases hk) (by kernel_rfl) (laid_met os))) ?_
  intro W base args ds gs before hval hW _ _ _ hL _ _
  exact contract H enc W base args ds gs before hval hW hL
theorem said : Rows.ShaForgetsSaid :=
  OpenClaim.holds_of_cond 7 Tryd.f7 rfl rfl rfl rfl rfl rfl rfl ⟨rfl, rfl, rfl, rfl, rfl⟩ rfl rfl rfl rfl rfl (by kernel_rfl) Tryd.func7 (by kernel_rfl)
    (of_decide_eq_true (by kernel_rfl)) (by unfold Func.isWrapper; first | (rw [if_pos (by decide +kernel)]; kernel_rfl) | (rw [if_neg (by decide +kernel)]; exact ⟨rfl, rfl⟩))
    (fun os started H enc _ F => by rw [OpenClaim.pre_eq_preRow]; exact lifted os started H enc F)
theorem plain (f : FuncId) (fn : Func) (hf : Tryd.pinned.checked.prog.funcNamed "plexus/plexuslaw03.ShaForgets" = some f) (hfn : Tryd.pinned.checked.prog.funcs[f]? = some fn) :
    false = Tryd.pinned.checked.prog.looks [] ∧ ∀ (j : Nat) t, fn.params[j]? = some t → Tryd.pinned.checked.prog.wantsStandIn t = false := by
  obtain rfl : f = 7 := Option.some.inj ((show Tryd.prog.funcNamed "plexus/plexuslaw03.ShaForgets" = some 7 by kernel_rfl).symm.trans hf) |>.symm
  obtain rfl : fn = Tryd.f7 := (Option.some.inj (Tryd.func7.symm.trans hfn)).symm
  refine ⟨by kernel_rfl, fun j t ht => ?_⟩
  rw [Tryd.params7] at ht
  have hm : t = 22 ∨ t = 22 := by simpa using Array.mem_of_getElem? ht
  rcases hm with rfl | rfl
  · exact (show Tryd.prog.wantsStandIn 22 = false by kernel_rfl)
  · exact (show Tryd.prog.wantsStandIn 22 = false by kernel_rfl)
/-- The card. -/
theorem card : Rows.ShaForgetsCardSaid :=
  Claim7.holds_tied_plain_at .later [] _ _ _ _ said (fun _ h => by cases h) (by kernel_rfl) (fun _ h => by cases h) shaForgets_row_tie rfl ⟨rfl, rfl⟩ (by kernel_rfl) rfl plain (by kernel_rfl)
#print axioms card
end Go.Proofs.YtacbbfmjjfbpoaaDoor.shaForgets

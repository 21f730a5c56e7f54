/-
  A clone continues from the same bytes, and what is written to the one does not affect the other.
-/
import Derived.Test.YtacbbfmjjfbpoaaDoorArg
import Derived.Test.YtacbbfmjjfbpoaaDoorAwake
namespace Go.Proofs.YtacbbfmjjfbpoaaDoor
open Go.RowKit Go.Pl
theorem StateAt.rlt {w : World} {B p : Nat} {m : List UInt8} {r : Option Nat} (h : StateAt w B p m r) : ∀ g, r = some g → B ≤ g ∧ g < w.heap.size := by
  obtain ⟨_, v, hr, _, ho⟩ := h
  intro g hg
  rw [hr] at hg
  refine ⟨own_base ho hg, ?_⟩
  rcases ho.2 with ⟨rfl, _⟩ | ⟨g', cap, cur, rfl, _, hh, _⟩
  · simp [Value.ownBlock] at hg
  · have : g' = g := by simpa [Value.ownBlock] using hg
    subst this
    exact (Array.getElem?_eq_some_iff.1 hh).1
theorem _root_.Go.Pl.Rd.up {w w' : World} {S : Nat → Prop} {A : Option Addr} {n c : Nat} {bs : List UInt8} (h : Rd w S A n c bs) (hb : Below w.heap.size w w') : Rd w' S A n c bs := h.keep hb.size fun _ hq _ => hb.cell hq
end Go.Proofs.YtacbbfmjjfbpoaaDoor
namespace Go.Proofs.YtacbbfmjjfbpoaaDoor.shaClones
open Go.ChangeShapes Go.WideShapes Go.ChangeAt Go.RowKit Go.Pl
set_option maxRecDepth 100000 in
set_option maxHeartbeats 2000000 in
theorem walk {A0 A1 A2 : Option Addr} {n0 c0 n1 c1 n2 c2 : Nat} {bs0 bs1 bs2 : List UInt8} (w : World) (hK : Kst w) (hA : Rd w (fun _ => True) A0 n0 c0 bs0) (hB : Rd w (fun _ => True) A1 n1 c1 bs1) (hC : Rd w (fun _ => True) A2 n2 c2 bs2) :
    Calls Tryd.prog 6 #[.slice A0 n0 c0, .slice A1 n1 c1, .slice A2 n2 c2] w fun e w' => e = .returned (.bool true) ∧ Below w.heap.size w w' := by
  obtain rfl := hA.len
  obtain rfl := hB.len
  obtain rfl := hC.len
  have hA' : Rd w (fun i => i < w.heap.size) A0 bs0.length c0 bs0 := hA.mono (fun i hi _ => hi)
  have hB' : Rd w (fun i => i < w.heap.size) A1 bs1.length c1 bs1 := hB.mono (fun i hi _ => hi)
  have hC' : Rd w (fun i => i < w.heap.size) A2 bs2.length c2 bs2 := hC.mono (fun i hi _ => hi)
  clear hA hB hC
  have hKp := hK.pos
  by_cases h0 : 1000 < bs0.length
  · go_enter Tryd.func6, Tryd.ntmps6
    go_wp2_with (go_at_call 10; refine (awake_any _ hK).mono ?_; rintro e w1 ⟨rfl, hb1⟩)
    go_ret
    exact ⟨rfl, hb1⟩
  by_cases h1 : 1000 < bs1.length
  · go_enter Tryd.func6, Tryd.ntmps6
    go_wp2_with (go_at_call 10; refine (awake_any _ hK).mono ?_; rintro e w1 ⟨rfl, hb1⟩)
    go_ret
    exact ⟨rfl, hb1⟩
  by_cases h2 : 1000 < bs2.length
  · go_enter Tryd.func6, Tryd.ntmps6
    go_wp2_with (go_at_call 10; refine (awake_any _ hK).mono ?_; rintro e w1 ⟨rfl, hb1⟩)
    go_ret
    exact ⟨rfl, hb1⟩
  have l0 : bs0.length ≤ 1000 := by omega
  have l1 : bs1.length ≤ 1000 := by omega
  have l2 : bs2.length ≤ 1000 := by omega
  clear h0 h1 h2
  obtain ⟨X, hX'⟩ : ∃ X, bs0 ++ bs1 = X := ⟨_, rfl⟩
  obtain ⟨Y, hY'⟩ : ∃ Y, bs0 ++ bs2 = Y := ⟨_, rfl⟩
  have lX : X.length ≤ 2000 := by rw [← hX']; simp; omega
  have lY : Y.length ≤ 2000 := by rw [← hY']; simp; omega
  have hX : Hid (bs0 ++ bs1 = X) := hX'
  have hY : Hid (bs0 ++ bs2 = Y) := hY'
  clear hX' hY'
  go_enter Tryd.func6, Tryd.ntmps6
  go_wp2_with fail
  refine (awake_any _ hK).mono ?_
  rintro e w1 ⟨rfl, hb1⟩
  have hA1 := hA'.up hb1
  have hB1 := hB'.up hb1
  have hC1 := hC'.up hb1
  have hK1 := hK.below hb1 hKp
  go_wp2_with fail
  refine (new_any _).mono ?_
  rintro e w2 ⟨p, rfl, hS2, hb2⟩
  have hb2a := hb1.trans (hb2.mono hb1.size)
  have hK2 := hK.below hb2a hKp
  have hA2 := hA1.up hb2
  have hB2 := hB1.up hb2
  have hC2 := hC1.up hb2
  have hp2 := hS2.lt
  have hp1 := hS2.1
  have hsz1 := hb1.size
  have hsz2 := hb2.size
  go_wp2_with fail
  refine (write_any _ (by omega) hK2 hS2 (hA2.mono (T := fun i => i ≠ p ∧ (none : Option Nat) ≠ some i) (fun i _ h => ⟨(by omega), (by simp)⟩)) (by simp; omega)).mono ?_
  rintro e w3 ⟨rfl, r3, hS3, hf3, hr3⟩
  rw [List.nil_append] at hS3
  have hr3' : ∀ g, r3 = some g → w2.heap.size ≤ g := fun g hg => by
    rcases hr3 with h | h
    · rw [h] at hg; cases hg
    · exact h g hg
  have F3 : ∀ i, (i = p ∨ (none : Option Nat) = some i) → w.heap.size ≤ i := fun i h => h.elim (fun e => by omega) (fun e => by cases e)
  have hb3a := hb2a.trans (hf3.below (B := w.heap.size) F3 hb2a.size)
  have hK3 := hK.below hb3a hKp
  have hA3 := hA2.fr hf3 (fun i hi hF => by have := F3 i hF; omega)
  have hB3 := hB2.fr hf3 (fun i hi hF => by have := F3 i hF; omega)
  have hC3 := hC2.fr hf3 (fun i hi hF => by have := F3 i hF; omega)
  have hsz3 := hf3.size
  have hp3 := hS3.lt
  have hrl3 := hS3.rlt
  go_wp2_with fail
  refine (clone_any _ hS3).mono ?_
  rintro e w4 ⟨p4, r4, rfl, hT4, hb4⟩
  have hb4a := hb3a.trans (hb4.mono hb3a.size)
  have hK4 := hK.below hb4a hKp
  have hA4 := hA3.up hb4
  have hB4 := hB3.up hb4
  have hC4 := hC3.up hb4
  have hS4 := hS3.below hb4
  have hsz4 := hb4.size
  have hp4 := hT4.1
  have hp4l := hT4.lt
  have hrl4 := hT4.rlt
  go_wp2_with fail
  refine (write_any _ (by omega) hK4 hS4 (hB4.mono (T := fun i => i ≠ p ∧ r3 ≠ some i) (fun i _ h => ⟨(by omega), (fun e => by have := hr3' i e; omega)⟩)) (by omega)).mono ?_
  rintro e w5 ⟨rfl, r5, hS5, hf5, hr5⟩
  rw [hX.out] at hS5
  have F5 : ∀ i, (i = p ∨ r3 = some i) → w.heap.size ≤ i ∧ i < w3.heap.size := fun i h => h.elim (fun e => by omega) (fun e => by have := hr3' i e; have := hrl3 i e; omega)
  have hb5a := hb4a.trans (hf5.below (B := w.heap.size) (fun i h => (F5 i h).1) hb4a.size)
  have hK5 := hK.below hb5a hKp
  have hA5 := hA4.fr hf5 (fun i hi hF => by have := F5 i hF; omega)
  have hB5 := hB4.fr hf5 (fun i hi hF => by have := F5 i hF; omega)
  have hC5 := hC4.fr hf5 (fun i hi hF => by have := F5 i hF; omega)
  have hT5 := hT4.fr hf5 (fun hF => by have := F5 _ hF; omega) (fun g hg hF => by have := F5 _ hF; have := hrl4 g hg; omega)
  have hsz5 := hf5.size
  have hr5' : ∀ g, r5 = some g → (g < w3.heap.size ∨ w4.heap.size ≤ g) := fun g hg => by
    rcases hr5 with h | h
    · rw [h] at hg; exact .inl (hrl3 g hg).2
    · exact .inr (h g hg)
  go_wp2_with fail
  refine (write_any _ (by omega) hK5 hT5 (hC5.mono (T := fun i => i ≠ p4 ∧ r4 ≠ some i) (fun i _ h => ⟨(by omega), (fun e => by have := hrl4 i e; omega)⟩)) (by omega)).mono ?_
  rintro e w6 ⟨rfl, r6, hT6, hf6, hr6⟩
  rw [hY.out] at hT6
  have F6 : ∀ i, (i = p4 ∨ r4 = some i) → w3.heap.size ≤ i ∧ i < w4.heap.size := fun i h => h.elim (fun e => by omega) (fun e => by have := hrl4 i e; omega)
  have hb6a := hb5a.trans (hf6.below (B := w.heap.size) (fun i h => by have := F6 i h; omega) hb5a.size)
  have hA6 := hA5.fr hf6 (fun i hi hF => by have := F6 i hF; omega)
  have hB6 := hB5.fr hf6 (fun i hi hF => by have := F6 i hF; omega)
  have hC6 := hC5.fr hf6 (fun i hi hF => by have := F6 i hF; omega)
  have hS6 := hS5.fr hf6 (fun hF => by have := F6 _ hF; omega) (fun g hg hF => by have := F6 _ hF; have := hr5' g hg; omega)
  clear hA1 hA2 hA3 hA4 hA5 hB1 hB2 hB3 hB4 hB5 hC1 hC2 hC3 hC4 hC5 hK1 hK2 hK3 hK4 hK5
  clear hS2 hS3 hS4 hS5 hT4 hT5 hf3 hf5 hf6 hr3 hr5 hr6 hr3' hr5' hrl3 hrl4 F3 F5 F6
  have hsz6 := hb6a.size
  have o1 := own_alloc w6 (Nat.le_refl _) 5 [] #[] rfl rfl (by decide)
  have f1 : Fr (fun _ => False) w6 (w6.alloc (.cells #[] 5)) := (Fr.refl (fun _ => False) w6).alloc _
  have a1 := (hA6.fr f1 (fun _ _ h => h)).all
  go_wp2_with (first
    | ((with_reducible refine wpl_append_sl _ rfl (.tmp 38) (.tmp 39) 22 rfl w6.heap.size 5 ?_ ?_ _ ?_ [] o1 _ _ ?_ bs0 a1 (by simp; omega) f1.size bs0.length rfl ?_); rfl; kernel_rfl; rfl; rfl; intro A7 c7 w7 ho7 hg7 hz7;
          have f7 := f1.grown hg7 (fun g h => .inr (by have : w6.heap.size = g := Option.some.inj h; omega));
          have b7 := (hB6.fr f7 (fun _ _ h => h)).all)
    | ((with_reducible refine wpl_append_sl _ rfl (.tmp 40) (.tmp 41) 22 rfl w6.heap.size 5 ?_ ?_ _ ?_ bs0 ho7 _ _ ?_ bs1 b7 (by omega) f7.size X.length (congrArg List.length hX.out) ?_); rfl; kernel_rfl; rfl; rfl; intro A8 c8 w8 ho8 hg8 hz8; rw [hX.out] at ho8;
          have f8 := f7.grown hg8 (fun g h => .inr (own_base ho7 h));
          have o9 := own_alloc w8 (Nat.le_refl _) 5 [] #[] rfl rfl (by decide);
          have k9 : Fr (fun _ => False) w8 (w8.alloc (.cells #[] 5)) := (Fr.refl (fun _ => False) w8).alloc _;
          have f9 := f8.alloc (.cells #[] 5);
          have a9 := (hA6.fr f9 (fun _ _ h => h)).all)
    | ((with_reducible refine wpl_append_sl _ rfl (.tmp 43) (.tmp 44) 22 rfl w8.heap.size 5 ?_ ?_ _ ?_ [] o9 _ _ ?_ bs0 a9 (by simp; omega) k9.size bs0.length rfl ?_); rfl; kernel_rfl; rfl; rfl; intro A10 c10 w10 ho10 hg10 hz10;
          have k10 := k9.grown hg10 (fun g h => .inr (by have : w8.heap.size = g := Option.some.inj h; omega));
          have f10 := f8.trans (G := fun _ => False) k10 (fun _ h => h.elim);
          have c10' := (hC6.fr f10 (fun _ _ h => h)).all)
    | ((with_reducible refine wpl_append_sl _ rfl (.tmp 45) (.tmp 46) 22 rfl w8.heap.size 5 ?_ ?_ _ ?_ bs0 ho10 _ _ ?_ bs2 c10' (by omega) k10.size Y.length (congrArg List.length hY.out) ?_); rfl; kernel_rfl; rfl; rfl; intro A11 c11 w11 ho11 hg11 hz11; rw [hY.out] at ho11;
          have k11 := k10.grown hg11 (fun g h => .inr (own_base ho10 h));
          have f11 := f8.trans (G := fun _ => False) k11 (fun _ h => h.elim)))
  have ho8' := own_fr ho8 k11 (fun _ _ h => h)
  have hb11 := hb6a.trans (f11.below (B := w.heap.size) (fun _ h => h.elim) hb6a.size)
  have hS11 := hS6.fr f11 (fun h => h) (fun _ _ h => h)
  have hT11 := hT6.fr f11 (fun h => h) (fun _ _ h => h)
  have hK11 := hK.below hb11 hKp
  clear a1 b7 a9 c10' o1 o9 ho7 ho10 ho8 hS6 hT6 f1 f7 f8 f9 f10 k9 k10 k11 hg7 hg8 hg10 hg11 hz7 hz8 hz10 hz11 hA6 hB6 hC6
  refine (sumst_any _ hK11 hS11 (by omega)).mono ?_
  rintro e w12 ⟨rfl, hb12⟩
  have hX12 := ((own_rd ho8').up hb12).mono (T := fun i => i < w12.heap.size) (fun _ h _ => h)
  have ho11' := own_below ho11 hb12
  have hS12 := hS11.below hb12
  have hT12 := hT11.below hb12
  have hb12a := hb11.trans (hb12.mono hb11.size)
  have hK12 := hK.below hb12a hKp
  go_wp2_with fail
  refine (sum_any _ hK12 (hX12.mono (T := fun _ => True) (fun _ _ _ => trivial)) (by omega)).mono ?_
  rintro e w13 ⟨rfl, hb13⟩
  have hS13 := hS12.below hb13
  have hT13 := hT12.below hb13
  have ho13 := own_below ho11' hb13
  have hb13a := hb12a.trans (hb13.mono hb12a.size)
  have hK13 := hK.below hb13a hKp
  go_wp2_with fail
  refine (sumst_any _ hK13 hT13 (by omega)).mono ?_
  rintro e w14 ⟨rfl, hb14⟩
  have hS14 := hS13.below hb14
  have hT14 := hT13.below hb14
  have hY14 := (own_rd ho13).up hb14
  have hb14a := hb13a.trans (hb14.mono hb13a.size)
  have hK14 := hK.below hb14a hKp
  go_wp2_with fail
  refine (sum_any _ hK14 (hY14.mono (T := fun _ => True) (fun _ _ _ => trivial)) (by omega)).mono ?_
  rintro e w15 ⟨rfl, hb15⟩
  have hS15 := hS14.below hb15
  have hT15 := hT14.below hb15
  have hb15a := hb14a.trans (hb15.mono hb14a.size)
  go_wp2_with fail
  refine (len_any _ hS15).mono ?_
  rintro e w16 ⟨rfl, rfl⟩
  go_wp2_with fail
  refine (len_any _ hT15).mono ?_
  rintro e w16 ⟨rfl, rfl⟩
  go_wp2_with fail
  go_ret
  exact ⟨rfl, hb15a⟩
theorem table {W : World} (h : laidMetH Tryd.prog Rows.shaClonesRow.laid W) : Lib.TabIs Tryd.prog W "plexus/sha256.constants" .u32 (Sha.K.map fun (n : Nat) => (n : Int)) :=
  Lib.tabIs_of_head (rest := []) gTab gTabType Tryd.underlying54 Tryd.underlying41 cellsWord cellsTab h
theorem contract (H : Type) (enc : TypeId × Value → H) (W : World) (base : Nat) (args : Array Value) (ds gs : List (DataW H)) (before : List MemPlace)
    (hval : ∀ (j : Nat) t v, Tryd.f6.params[j]? = some t → args[j]? = some v → Value.okWide Tryd.prog W .any base t v)
    (hW : DataW.Whole enc Tryd.prog Tryd.f6.params.toList Rows.shaClonesSpec.vars false W args.toList ds gs before) (hL : laidMetH Tryd.prog Rows.shaClonesRow.laid W) :
    Calls Tryd.prog 6 args W fun e W' => ∃ v, e = .returned v ∧ Rows.shaClonesSpec.post enc Tryd.prog Tryd.f6 false true false false W args v W' := by
  have hW' := hW
  obtain ⟨p, q, hA0, hV, rfl, hfz, hnd⟩ := hW
  have hA : DataW.TrodAll enc Tryd.prog W 0 (fun _ => true) true Tryd.f6.params.toList args.toList ds p := hA0
  rw [Tryd.params6] at hA hval
  obtain ⟨v0, vs0, d0, ds0, p0, q0, hargs, rfl, rfl, h0, r0⟩ := trodAll_cons hA
  obtain ⟨v1, vs1, d1, ds1, p1, q1, rfl, rfl, rfl, h1, r1⟩ := trodAll_cons r0
  obtain ⟨v2, vs2, d2, ds2, p2, q2, rfl, rfl, rfl, h2, r2⟩ := trodAll_cons r1
  obtain ⟨rfl, rfl, rfl⟩ := trodAll_nil r2
  obtain rfl : args = #[v0, v1, v2] := by cases args; simp_all
  obtain ⟨rfl, rfl⟩ := trodVars_none hV
  obtain ⟨a0, len0, cap0, rfl⟩ := okWide_slice Tryd.underlying22 (hval 0 22 v0 rfl rfl)
  obtain ⟨a1, len1, cap1, rfl⟩ := okWide_slice Tryd.underlying22 (hval 1 22 v1 rfl rfl)
  obtain ⟨a2, len2, cap2, rfl⟩ := okWide_slice Tryd.underlying22 (hval 2 22 v2 rfl rfl)
  have k0 := h0
  have lt0 : ∀ x ∈ p0, x.block < W.heap.size := by obtain ⟨m, hm⟩ := k0; exact DataW.trod_lt m _ _ _ hm
  obtain ⟨z0, w0⟩ := isRow_of_trod Tryd.underlying22 Tryd.underlying5 (by kernel_rfl) h0
  obtain ⟨bs0, hrd0⟩ := rd_of_row w0
  have k1 := h1
  have lt1 : ∀ x ∈ p1, x.block < W.heap.size := by obtain ⟨m, hm⟩ := k1; exact DataW.trod_lt m _ _ _ hm
  obtain ⟨z1, w1⟩ := isRow_of_trod Tryd.underlying22 Tryd.underlying5 (by kernel_rfl) h1
  obtain ⟨bs1, hrd1⟩ := rd_of_row w1
  have k2 := h2
  have lt2 : ∀ x ∈ p2, x.block < W.heap.size := by obtain ⟨m, hm⟩ := k2; exact DataW.trod_lt m _ _ _ hm
  obtain ⟨z2, w2⟩ := isRow_of_trod Tryd.underlying22 Tryd.underlying5 (by kernel_rfl) h2
  obtain ⟨bs2, hrd2⟩ := rd_of_row w2
  clear hA0
  refine (walk W (kst_of_tab (table hL)) hrd0 hrd1 hrd2).mono fun e W' ⟨he, bel⟩ => ?_
  subst he
  exact ⟨_, rfl, _, _, _, [], _, [], hW', trodAll_mk1 (shut_bool Tryd.underlying4 _), (trodAll_cons_mk (Below.trod laidOut (by kernel_rfl) (of_decide_eq_true (by kernel_rfl)) k0 bel lt0) (trodAll_cons_mk (Below.trod laidOut (by kernel_rfl) (of_decide_eq_true (by kernel_rfl)) k1 bel lt1) (trodAll_cons_mk (Below.trod laidOut (by kernel_rfl) (of_decide_eq_true (by kernel_rfl)) k2 bel lt2) trodAll_mk0))), rfl, bel.frame _, fun h => by cases h⟩
theorem laid_met (os : Os) : laidMet Tryd.prog Rows.shaClonesRow.laid ((laidWorld os).forCall (fun _ _ => 0) ⟨#[], #[.slice none 0 0, .slice none 0 0, .slice none 0 0], []⟩).memory :=
  laidMet_of_run' 8 (by kernel_rfl) (by kernel_rfl)
theorem reads (os : Os) {H : Type} (enc : TypeId × Value → H) : ∃ places, DataW.whole enc Tryd.prog ((laidWorld os).forCall (fun _ _ => 0) ⟨#[], #[.slice none 0 0, .slice none 0 0, .slice none 0 0], []⟩).memory Tryd.f6.params.toList Rows.shaClonesSpec.vars false #[Value.slice none 0 0, .slice none 0 0, .slice none 0 0].toList 8 = some ([.nil, .nil, .nil], [], places) :=
  ⟨[], by kernel_rfl⟩
set_option maxRecDepth 100000 in
theorem lifted (os : Os) (started : os.Started) (H : Type) (enc : TypeId × Value → H) (F : Stop.Interp) :
    ReturnsInHanded {} Tryd.checked os 6 .any ((OpenSpec.ofChange Rows.shaClonesSpec).preRow enc Tryd.prog Tryd.f6 Rows.shaClonesRow.domain false Rows.shaClonesRow.laid) (((OpenSpec.ofChange Rows.shaClonesSpec).at F).post enc Tryd.prog Tryd.f6 false true false false) := by
  obtain ⟨places, hx⟩ := reads os enc
  refine returnsInHanded_of_row (C := Tryd.checked) (s := OpenSpec.ofChange Rows.shaClonesSpec) own started (by kernel_rfl) Tryd.func6
    (witness_row_at (enc := enc) (C := Tryd.checked) false (laidWorld os) #[.slice none 0 0, .slice none 0 0, .slice none 0 0] rfl (by kernel_rfl) (by kernel_rfl) (by kernel_rfl)
      (OpenSpec.preRow_of_cond 8 hx (by kernel_rfl) (fun k hk => by cases hk) (by kernel_rfl) (laid_met os))) ?_
  intro W base args ds gs before hval hW _ _ _ hL _ _
  exact contract H enc W base args ds gs before hval hW hL
theorem said : Rows.ShaClonesSaid :=
  OpenClaim.holds_of_cond 6 Tryd.f6 rfl rfl rfl rfl rfl rfl rfl ⟨rfl, rfl, rfl, rfl, rfl⟩ rfl rfl rfl rfl rfl (by kernel_rfl) Tryd.func6 (by kernel_rfl)
    (of_decide_eq_true (by kernel_rfl)) (by unfold Func.isWrapper; first | (rw [if_pos (by decide +kernel)]; kernel_rfl) | (rw [if_neg (by decide +kernel)]; exact ⟨rfl, rfl⟩))
    (fun os started H enc _ F => by rw [OpenClaim.pre_eq_preRow]; exact lifted os started H enc F)
theorem plain (f : FuncId) (fn : Func) (hf : Tryd.pinned.checked.prog.funcNamed "plexus/plexuslaw03.ShaClones" = some f) (hfn : Tryd.pinned.checked.prog.funcs[f]? = some fn) :
    false = Tryd.pinned.checked.prog.looks [] ∧ ∀ (j : Nat) t, fn.params[j]? = some t → Tryd.pinned.checked.prog.wantsStandIn t = false := by
  obtain rfl : f = 6 := Option.some.inj ((show Tryd.prog.funcNamed "plexus/plexuslaw03.ShaClones" = some 6 by kernel_rfl).symm.trans hf) |>.symm
  obtain rfl : fn = Tryd.f6 := (Option.some.inj (Tryd.func6.symm.trans hfn)).symm
  refine ⟨by kernel_rfl, fun j t ht => ?_⟩
  rw [Tryd.params6] at ht
  have hm : t = 22 ∨ t = 22 ∨ t = 22 := by simpa using Array.mem_of_getElem? ht
  rcases hm with rfl | rfl | rfl
  · exact (show Tryd.prog.wantsStandIn 22 = false by kernel_rfl)
  · exact (show Tryd.prog.wantsStandIn 22 = false by kernel_rfl)
  · exact (show Tryd.prog.wantsStandIn 22 = false by kernel_rfl)
/-- The card. -/
theorem card : Rows.ShaClonesCardSaid :=
  Claim7.holds_tied_plain_at .later [] _ _ _ _ said (fun _ h => by cases h) (by kernel_rfl) (fun _ h => by cases h) shaClones_row_tie rfl ⟨rfl, rfl⟩ (by kernel_rfl) rfl plain (by kernel_rfl)
#print axioms card
end Go.Proofs.YtacbbfmjjfbpoaaDoor.shaClones

/-
  After a module has been raised it signs nothing at a lower height, and its height never decreases.
-/
import Derived.Test.YtlofgcglnpjceaaDoorHead
import Derived.Test.YtlofgcglnpjceaaDoorShort
import Derived.Test.YtlofgcglnpjceaaDoorArgI
namespace Go.Proofs.YtlofgcglnpjceaaDoor.keyedStale
open Go.ChangeShapes Go.WideShapes Go.ChangeAt Go.RowKit Go.Pl
set_option maxRecDepth 100000 in
set_option maxHeartbeats 4000000 in
theorem walk {A1 A2 A3 : Option Addr} {n1 c1 n2 c2 n3 c3 : Nat} {k m : List UInt8} {zs : List Int} (w : World) (hK : Kst w) (h1 : Rd w (fun _ => True) A1 n1 c1 k) (p : Int) (hp : I64 p) (x : Int) (hx : I64 x)
    (h3 : Row w (fun _ => True) 1 A3 n3 c3 (zs.map iv)) (_hz : I64s zs) (hn3 : n3 ≤ 9223372036854775807) (h2 : Rd w (fun _ => True) A2 n2 c2 m) :
    Calls Tryd.prog 7 #[.slice A1 n1 c1, .int .i64 p, .int .i64 x, .slice A3 n3 c3, .slice A2 n2 c2] w fun e w' => e = .returned (.bool true) ∧ Below w.heap.size w w' := by
  have hl1 := Lib.hid h1.len
  have hl2 := Lib.hid h2.len
  have hKp := hK.pos
  have hR1 : Hid (Rd w (fun i => i < w.heap.size) A1 n1 c1 k) := h1.mono (fun i hi _ => hi)
  have hR2 : Hid (Rd w (fun i => i < w.heap.size) A2 n2 c2 m) := h2.mono (fun i hi _ => hi)
  have hR3 : Hid (Row w (fun i => i < w.heap.size) 1 A3 n3 c3 (zs.map iv)) := h3.mono (fun i hi _ => hi)
  clear h1 h2 h3
  by_cases h12 : 12 < n3
  · have h12I : (12 : Int) < (n3 : Int) := by omega
    go_enter Tryd.func7, Tryd.ntmps7
    go_wp2_with fail
    refine (awake_any _ hK).mono ?_
    rintro e w1 ⟨rfl, hb1⟩
    go_wp2_with fail
    go_ret
    exact ⟨rfl, hb1⟩
  · have h12I : ¬ (12 : Int) < (n3 : Int) := by omega
    go_enter Tryd.func7, Tryd.ntmps7
    go_wp2_with fail
    refine (awake_any _ hK).mono ?_
    rintro e w1 ⟨rfl, hb1⟩
    go_wp2_with fail
    refine (short_any _ _ _ _ _ _ _).mono ?_
    rintro e wq ⟨rfl, rfl⟩
    by_cases hs : n1 ≤ 2000 ∧ n2 ≤ 2000
    · rw [decide_eq_true hs]
      have hk : Hid (k.length ≤ 1000000) := by show _ ≤ _; have := hl1.out; omega
      have hm : Hid (m.length ≤ 1000000) := by show _ ≤ _; have := hl2.out; omega
      clear hs hl1 hl2
      go_wp2_with fail
      refine (knew_any _ ((hR1.out.ab hb1).mono (fun _ _ _ => trivial)) hk.out p).mono ?_
      rintro e w2 ⟨G, rfl, hG, hD2, hb2'⟩
      have hb2 := hb1.trans (hb2'.mono hb1.size)
      have hGw : Hid (w.heap.size ≤ G) := by show _ ≤ _; have := hb1.size; omega
      have hSw : Hid (w.heap.size ≤ wq.heap.size) := hb1.size
      obtain ⟨S, hS⟩ : ∃ S, wq.heap.size = S := ⟨_, rfl⟩
      rw [hS] at hD2 hSw
      clear hb1 hb2' hG hS
      go_wp2_with fail
      clear h12I
      go_loopw [12, 13] (fun t12 t13 wr => ∃ (i : Nat) (mx : Int), i ≤ n3 ∧ t12 = .int .i64 mx ∧ t13 = .int .i64 (i : Int) ∧ 0 ≤ mx ∧ Dev wr G S k p mx ∧ Below w.heap.size w wr) (fun _ t13 _ => n3 - (intOf t13).toNat)
      case atStart => exact ⟨0, 0, by omega, rfl, rfl, by omega, hD2, hb2⟩
      case round =>
        obtain ⟨i, mx, hi, rfl, rfl, hmx, hD, hb⟩ := hrel
        clear hD2 hb2
        by_cases hlt : i < n3
        · have hltI : (i : Int) < (n3 : Int) := by omega
          have hrow := hR3.out.keep (w' := wr) hb.size (fun q hq _ => hb.cell hq)
          obtain ⟨bb, oo, rfl, hbS, -, hcc⟩ := hrow.intAt (by omega)
          have hcell := hcc i hlt
          obtain ⟨z, hz⟩ : ∃ z, zs.getD i 0 = z := ⟨_, rfl⟩
          rw [hz] at hcell
          clear hrow hz hcc
          go_wp2_with fail
          refine (raise_any hD z).mono ?_
          rintro e w4 ⟨rfl, hD4, hf4⟩
          have hb4 := hb.trans (hf4.below (B := w.heap.size) (fun i e => e ▸ hGw.out) hb.size)
          have hcell4 : w4.cell? ⟨bb, oo + i, none⟩ = some (.int .i64 z) := by
            rw [hf4.cell (p := ⟨bb, oo + i, none⟩) (by have := hb.size; show bb < _; omega) (fun e => by have := hGw.out; have e : bb = G := e; omega)]
            exact hcell
          clear hf4 hD hcell hb
          by_cases hzx : mx < z
          · have hM : max mx z = z := by omega
            rw [hM] at hD4
            have hM0 : 0 ≤ z := by omega
            clear hM
            by_cases hneg : x < 0
            · have hge : ¬ z ≤ x := by omega
              go_wp2_with fail
              refine (sign_neg _ x hneg).mono ?_
              rintro e w5 ⟨rfl, rfl⟩
              go_wp2_with (go_at_call 18; refine (height_any hD4).mono ?_; rintro e w6 ⟨rfl, rfl⟩)
              go_roundw
              case rel => exact ⟨i + 1, z, by omega, rfl, by go_num, hM0, hD4, hb4⟩
              case measure => simp [intOf]; omega
            · by_cases hlo : x < z
              · have hge : ¬ z ≤ x := by omega
                go_wp2_with fail
                refine (sign_stale hD4 _ x (by omega) hlo).mono ?_
                rintro e w5 ⟨rfl, rfl⟩
                go_wp2_with (go_at_call 18; refine (height_any hD4).mono ?_; rintro e w6 ⟨rfl, rfl⟩)
                go_roundw
                case rel => exact ⟨i + 1, z, by omega, rfl, by go_num, hM0, hD4, hb4⟩
                case measure => simp [intOf]; omega
              · have hge : z ≤ x := by omega
                go_wp2_with fail
                refine (sign_any (hK.below hb4 hKp) hD4 ((hR2.out.ab hb4).mono (fun _ _ _ => trivial)) hk.out hm.out hp x (by omega) hx hge).mono ?_
                rintro e w5 ⟨g5, n5, k5, hn5, rfl, -, hd5, hb5'⟩
                have hb5 := hb4.trans (hb5'.mono hb4.size)
                have hD5 := hD4.up hb5'
                have hr5 := hd5.rd.mono (T := fun _ => True) (fun _ _ _ => trivial)
                rw [← hn5] at hr5
                clear hn5 hd5 hb5' hb4 hD4
                obtain ⟨T, hT⟩ : ∃ T, Keyed.tag (Keyed.key k p x) m = T := ⟨_, rfl⟩
                have hT' := Lib.hid hT
                rw [hT] at hr5
                clear hT hcell4
                have hv := Lib.hid (verify_any (hK.below hb5 hKp) hD5 ((hR2.out.ab hb5).mono (fun _ _ _ => trivial)) hr5 hk.out hm.out p x hp hx)
                go_wp2_with (first
                  | (go_at_call 18; refine (height_any hD5).mono ?_; rintro e w6 ⟨rfl, rfl⟩)
                  | (go_at_call 22; refine hv.out.mono ?_; rw [hT'.out]; rintro e w7 ⟨rfl, hb7'⟩; rw [decide_eq_true (rfl : T = T)];
                      have hb7 := hb5.trans (hb7'.mono hb5.size);
                      have hD7 := hD5.up hb7'))
                go_roundw
                case rel => exact ⟨i + 1, z, by omega, rfl, by go_num, hM0, hD7, hb7⟩
                case measure => simp [intOf]; omega
          · have hM : max mx z = mx := by omega
            rw [hM] at hD4
            have hM0 : 0 ≤ mx := by omega
            clear hM
            by_cases hneg : x < 0
            · have hge : ¬ mx ≤ x := by omega
              go_wp2_with fail
              refine (sign_neg _ x hneg).mono ?_
              rintro e w5 ⟨rfl, rfl⟩
              go_wp2_with (go_at_call 18; refine (height_any hD4).mono ?_; rintro e w6 ⟨rfl, rfl⟩)
              go_roundw
              case rel => exact ⟨i + 1, mx, by omega, rfl, by go_num, hM0, hD4, hb4⟩
              case measure => simp [intOf]; omega
            · by_cases hlo : x < mx
              · have hge : ¬ mx ≤ x := by omega
                go_wp2_with fail
                refine (sign_stale hD4 _ x (by omega) hlo).mono ?_
                rintro e w5 ⟨rfl, rfl⟩
                go_wp2_with (go_at_call 18; refine (height_any hD4).mono ?_; rintro e w6 ⟨rfl, rfl⟩)
                go_roundw
                case rel => exact ⟨i + 1, mx, by omega, rfl, by go_num, hM0, hD4, hb4⟩
                case measure => simp [intOf]; omega
              · have hge : mx ≤ x := by omega
                go_wp2_with fail
                refine (sign_any (hK.below hb4 hKp) hD4 ((hR2.out.ab hb4).mono (fun _ _ _ => trivial)) hk.out hm.out hp x (by omega) hx hge).mono ?_
                rintro e w5 ⟨g5, n5, k5, hn5, rfl, -, hd5, hb5'⟩
                have hb5 := hb4.trans (hb5'.mono hb4.size)
                have hD5 := hD4.up hb5'
                have hr5 := hd5.rd.mono (T := fun _ => True) (fun _ _ _ => trivial)
                rw [← hn5] at hr5
                clear hn5 hd5 hb5' hb4 hD4
                obtain ⟨T, hT⟩ : ∃ T, Keyed.tag (Keyed.key k p x) m = T := ⟨_, rfl⟩
                have hT' := Lib.hid hT
                rw [hT] at hr5
                clear hT hcell4
                have hv := Lib.hid (verify_any (hK.below hb5 hKp) hD5 ((hR2.out.ab hb5).mono (fun _ _ _ => trivial)) hr5 hk.out hm.out p x hp hx)
                go_wp2_with (first
                  | (go_at_call 18; refine (height_any hD5).mono ?_; rintro e w6 ⟨rfl, rfl⟩)
                  | (go_at_call 22; refine hv.out.mono ?_; rw [hT'.out]; rintro e w7 ⟨rfl, hb7'⟩; rw [decide_eq_true (rfl : T = T)];
                      have hb7 := hb5.trans (hb7'.mono hb5.size);
                      have hD7 := hD5.up hb7'))
                go_roundw
                case rel => exact ⟨i + 1, mx, by omega, rfl, by go_num, hM0, hD7, hb7⟩
                case measure => simp [intOf]; omega
        · have hge : ¬ (i : Int) < (n3 : Int) := by omega
          go_wp2_with fail
          go_ret
          exact ⟨rfl, hb⟩
    · rw [decide_eq_false hs]
      go_wp2_with fail
      go_ret
      exact ⟨rfl, hb1⟩
theorem table {W : World} (h : laidMetH Tryd.prog Rows.keyedStaleRow.laid W) : Lib.TabIs Tryd.prog W "plexus/sha256.constants" .u32 (Sha.K.map fun (n : Nat) => (n : Int)) :=
  Lib.tabIs_of_head (rest := []) gTab gTabType Tryd.underlying76 Tryd.underlying63 cellsWord cellsTab h
theorem contract (H : Type) (enc : TypeId × Value → H) (W : World) (base : Nat) (args : Array Value) (ds gs : List (DataW H)) (before : List MemPlace)
    (hval : ∀ (j : Nat) t v, Tryd.f7.params[j]? = some t → args[j]? = some v → Value.okWide Tryd.prog W .any base t v)
    (hW : DataW.Whole enc Tryd.prog Tryd.f7.params.toList Rows.keyedStaleSpec.vars false W args.toList ds gs before) (hL : laidMetH Tryd.prog Rows.keyedStaleRow.laid W) :
    Calls Tryd.prog 7 args W fun e W' => ∃ v, e = .returned v ∧ Rows.keyedStaleSpec.post enc Tryd.prog Tryd.f7 false true false false W args v W' := by
  have hW' := hW
  obtain ⟨p, q, hA0, hV, rfl, hfz, hnd⟩ := hW
  have hA : DataW.TrodAll enc Tryd.prog W 0 (fun _ => true) true Tryd.f7.params.toList args.toList ds p := hA0
  rw [Tryd.params7] at hA hval
  obtain ⟨v0, vs0, d0, ds0, p0, q0, hargs, rfl, rfl, h0, r0⟩ := trodAll_cons hA
  obtain ⟨v1, vs1, d1, ds1, p1, q1, rfl, rfl, rfl, h1, r1⟩ := trodAll_cons r0
  obtain ⟨v2, vs2, d2, ds2, p2, q2, rfl, rfl, rfl, h2, r2⟩ := trodAll_cons r1
  obtain ⟨v3, vs3, d3, ds3, p3, q3, rfl, rfl, rfl, h3, r3⟩ := trodAll_cons r2
  obtain ⟨v4, vs4, d4, ds4, p4, q4, rfl, rfl, rfl, h4, r4⟩ := trodAll_cons r3
  obtain ⟨rfl, rfl, rfl⟩ := trodAll_nil r4
  obtain rfl : args = #[v0, v1, v2, v3, v4] := by cases args; simp_all
  obtain ⟨rfl, rfl⟩ := trodVars_none hV
  obtain ⟨a0, len0, cap0, rfl⟩ := okWide_slice Tryd.underlying22 (hval 0 22 v0 rfl rfl)
  obtain ⟨a3, len3, cap3, rfl⟩ := okWide_slice Tryd.underlying43 (hval 3 43 v3 rfl rfl)
  obtain ⟨a4, len4, cap4, rfl⟩ := okWide_slice Tryd.underlying22 (hval 4 22 v4 rfl rfl)
  have k0 := h0
  have lt0 : ∀ x ∈ p0, x.block < W.heap.size := by obtain ⟨m, hm⟩ := k0; exact DataW.trod_lt m _ _ _ hm
  obtain ⟨z0, w0⟩ := isRow_of_trod Tryd.underlying22 Tryd.underlying5 (by kernel_rfl) h0
  obtain ⟨bs0, hrd0⟩ := rd_of_row w0
  have k1 := h1
  have lt1 : ∀ x ∈ p1, x.block < W.heap.size := by obtain ⟨m, hm⟩ := k1; exact DataW.trod_lt m _ _ _ hm
  obtain ⟨n1, rfl, -, -, z1⟩ := open_int Tryd.underlying3 (hval 1 3 v1 rfl rfl) h1
  have k2 := h2
  have lt2 : ∀ x ∈ p2, x.block < W.heap.size := by obtain ⟨m, hm⟩ := k2; exact DataW.trod_lt m _ _ _ hm
  obtain ⟨n2, rfl, -, -, z2⟩ := open_int Tryd.underlying3 (hval 2 3 v2 rfl rfl) h2
  have k3 := h3
  have lt3 : ∀ x ∈ p3, x.block < W.heap.size := by obtain ⟨m, hm⟩ := k3; exact DataW.trod_lt m _ _ _ hm
  obtain ⟨zs3, w3, y3, x3⟩ := ints_of_trod Tryd.underlying43 Tryd.underlying3 (by kernel_rfl) h3
  have k4 := h4
  have lt4 : ∀ x ∈ p4, x.block < W.heap.size := by obtain ⟨m, hm⟩ := k4; exact DataW.trod_lt m _ _ _ hm
  obtain ⟨z4, w4⟩ := isRow_of_trod Tryd.underlying22 Tryd.underlying5 (by kernel_rfl) h4
  obtain ⟨bs4, hrd4⟩ := rd_of_row w4
  clear hA0
  refine (walk W (kst_of_tab (table hL)) hrd0 n1 (bounds_i64 z1) n2 (bounds_i64 z2) w3 y3 x3 hrd4).mono fun e W' ⟨he, bel⟩ => ?_
  subst he
  exact ⟨_, rfl, _, _, _, [], _, [], hW', trodAll_mk1 (shut_bool Tryd.underlying4 _), (trodAll_cons_mk (Below.trod laidOut (by kernel_rfl) (of_decide_eq_true (by kernel_rfl)) k0 bel lt0) (trodAll_cons_mk (Below.trod laidOut (by kernel_rfl) (of_decide_eq_true (by kernel_rfl)) k1 bel lt1) (trodAll_cons_mk (Below.trod laidOut (by kernel_rfl) (of_decide_eq_true (by kernel_rfl)) k2 bel lt2) (trodAll_cons_mk (Below.trod laidOut (by kernel_rfl) (of_decide_eq_true (by kernel_rfl)) k3 bel lt3) (trodAll_cons_mk (Below.trod laidOut (by kernel_rfl) (of_decide_eq_true (by kernel_rfl)) k4 bel lt4) trodAll_mk0))))), rfl, bel.frame _, fun h => by cases h⟩
theorem laid_met (os : Os) : laidMet Tryd.prog Rows.keyedStaleRow.laid ((laidWorld os).forCall (fun _ _ => 0) ⟨#[], #[.slice none 0 0, .int .i64 0, .int .i64 0, .slice none 0 0, .slice none 0 0], []⟩).memory :=
  laidMet_of_run' 8 (by kernel_rfl) (by kernel_rfl)
theorem reads (os : Os) {H : Type} (enc : TypeId × Value → H) : ∃ places, DataW.whole enc Tryd.prog ((laidWorld os).forCall (fun _ _ => 0) ⟨#[], #[.slice none 0 0, .int .i64 0, .int .i64 0, .slice none 0 0, .slice none 0 0], []⟩).memory Tryd.f7.params.toList Rows.keyedStaleSpec.vars false #[Value.slice none 0 0, .int .i64 0, .int .i64 0, .slice none 0 0, .slice none 0 0].toList 8 = some ([.nil, .lit (.int .i64 0), .lit (.int .i64 0), .nil, .nil], [], places) :=
  ⟨[], by kernel_rfl⟩
set_option maxRecDepth 100000 in
theorem lifted (os : Os) (started : os.Started) (H : Type) (enc : TypeId × Value → H) (F : Stop.Interp) :
    ReturnsInHanded {} Tryd.checked os 7 .any ((OpenSpec.ofChange Rows.keyedStaleSpec).preRow enc Tryd.prog Tryd.f7 Rows.keyedStaleRow.domain false Rows.keyedStaleRow.laid) (((OpenSpec.ofChange Rows.keyedStaleSpec).at F).post enc Tryd.prog Tryd.f7 false true false false) := by
  obtain ⟨places, hx⟩ := reads os enc
  refine returnsInHanded_of_row (C := Tryd.checked) (s := OpenSpec.ofChange Rows.keyedStaleSpec) own started (by kernel_rfl) Tryd.func7
    (witness_row_at (enc := enc) (C := Tryd.checked) false (laidWorld os) #[.slice none 0 0, .int .i64 0, .int .i64 0, .slice none 0 0, .slice none 0 0] rfl (by kernel_rfl) (by kernel_rfl) (by kernel_rfl)
      (OpenSpec.preRow_of_cond 8 hx (by kernel_rfl) (fun k hk => by cases hk) (by kernel_rfl) (laid_met os))) ?_
  intro W base args ds gs before hval hW _ _ _ hL _ _
  exact contract H enc W base args ds gs before hval hW hL
theorem said : Rows.KeyedStaleSaid :=
  OpenClaim.holds_of_cond 7 Tryd.f7 rfl rfl rfl rfl rfl rfl rfl ⟨rfl, rfl, rfl, rfl, rfl⟩ rfl rfl rfl rfl rfl (by kernel_rfl) Tryd.func7 (by kernel_rfl)
    (of_decide_eq_true (by kernel_rfl)) (by unfold Func.isWrapper; first | (rw [if_pos (by decide +kernel)]; kernel_rfl) | (rw [if_neg (by decide +kernel)]; exact ⟨rfl, rfl⟩))
    (fun os started H enc _ F => by rw [OpenClaim.pre_eq_preRow]; exact lifted os started H enc F)
theorem plain (f : FuncId) (fn : Func) (hf : Tryd.pinned.checked.prog.funcNamed "plexus/plexuslaw05.KeyedStale" = some f) (hfn : Tryd.pinned.checked.prog.funcs[f]? = some fn) :
    false = Tryd.pinned.checked.prog.looks [] ∧ ∀ (j : Nat) t, fn.params[j]? = some t → Tryd.pinned.checked.prog.wantsStandIn t = false := by
  obtain rfl : f = 7 := Option.some.inj ((show Tryd.prog.funcNamed "plexus/plexuslaw05.KeyedStale" = some 7 by kernel_rfl).symm.trans hf) |>.symm
  obtain rfl : fn = Tryd.f7 := (Option.some.inj (Tryd.func7.symm.trans hfn)).symm
  refine ⟨by kernel_rfl, fun j t ht => ?_⟩
  rw [Tryd.params7] at ht
  have hm : t = 22 ∨ t = 3 ∨ t = 3 ∨ t = 43 ∨ t = 22 := by simpa using Array.mem_of_getElem? ht
  rcases hm with rfl | rfl | rfl | rfl | rfl
  · exact (show Tryd.prog.wantsStandIn 22 = false by kernel_rfl)
  · exact (show Tryd.prog.wantsStandIn 3 = false by kernel_rfl)
  · exact (show Tryd.prog.wantsStandIn 3 = false by kernel_rfl)
  · exact (show Tryd.prog.wantsStandIn 43 = false by kernel_rfl)
  · exact (show Tryd.prog.wantsStandIn 22 = false by kernel_rfl)
/-- The card. -/
theorem card : Rows.KeyedStaleCardSaid :=
  Claim7.holds_tied_plain_at .later [] _ _ _ _ said (fun _ h => by cases h) (by kernel_rfl) (fun _ h => by cases h) keyedStale_row_tie rfl ⟨rfl, rfl⟩ (by kernel_rfl) rfl plain (by kernel_rfl)
#print axioms card
end Go.Proofs.YtlofgcglnpjceaaDoor.keyedStale

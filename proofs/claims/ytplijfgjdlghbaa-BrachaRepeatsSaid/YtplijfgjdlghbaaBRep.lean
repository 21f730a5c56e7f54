/-
  After any messages, one that was received before has no effect when it is received again.
-/
import Derived.Test.YtplijfgjdlghbaaBArg
namespace Go.Proofs.Ytplijfgjdlghbaa.brachaRepeats
open Go.ChangeShapes Go.WideShapes Go.ChangeAt Go.RowKit Go.Pl
set_option maxRecDepth 100000 in
set_option maxHeartbeats 4000000 in
theorem walk_yes (w : World) (n self : Nat) (h1 : 1 ≤ n) (h2 : n ≤ 7) (h3 : self < n) {A : Option Addr} {len c : Nat} {ms : List Bra.Pkt} (hr : RdP w (fun _ => True) A len c ms) (hq : ∀ m ∈ ms, PktOk m) (hlen : len ≤ 30) :
    Calls Try.prog 6 #[.int .i64 n, .int .i64 self, .slice A len c] w fun e w' => e = .returned (.bool true) ∧ Below w.heap.size w w' := by
  have e1 : ¬ (n : Int) < 1 := by omega
  have e2 : ¬ (7 : Int) < (n : Int) := by omega
  have e3 : ¬ (self : Int) < 0 := by omega
  have e4 : ¬ (n : Int) ≤ (self : Int) := by omega
  have e5 : ¬ (30 : Int) < (len : Int) := by omega
  have hl := Lib.hid hr.len
  have hrd := Lib.hid (hr.mono (T := fun i => i < w.heap.size) (fun i hi _ => hi))
  have hqd := Lib.hid hq
  clear hr hq
  go_enter Try.func6, Try.ntmps6
  go_wp2_with fail
  refine (awake_any _).mono ?_
  rintro e w1 ⟨rfl, hb1⟩
  go_wp2_with fail
  refine (new_any _ n self h1 (by omega) h3).mono ?_
  rintro e w2 ⟨G, L0, rfl, hp, hl0, hb2'⟩
  have hm0 : Mine w w2 L0 G (Bra.start n self) := ⟨hp, hb1.trans (hb2'.mono hb1.size), fun i hi => Nat.le_trans hb1.size (hl0 i hi)⟩
  clear hl0 hb2' hp hb1
  go_wp2_with fail
  clear e1 e2 e3 e4 e5
  go_loopw [9] (fun t9 wr => ∃ (i : Nat) (q : Bra.Proc) (L : Nat → Lab), i ≤ len ∧ t9 = .int .i64 i ∧ Mine w wr L G q ∧ q.done.length ≤ i ∧ ∀ k m, k < i → ms[k]? = some m → Bra.Known q m) (fun t9 _ => len - (intOf t9).toNat)
  case atStart => exact ⟨0, _, L0, by omega, rfl, hm0, Nat.le_refl _, fun k m hk => by omega⟩
  case round =>
    obtain ⟨i, q, L, hi, rfl, hm, hdl, hkn⟩ := hrel
    have hkd := Lib.hid hkn
    have hmd := Lib.hid hm
    clear hm0 hkn hm
    by_cases hlt : i < len
    · have hltI : (i : Int) < (len : Int) := by omega
      have hil : i < ms.length := by rw [← hl.out]; exact hlt
      obtain ⟨b, off, s, rfl, hbs, -, hs, hg⟩ := hrd.out.get (List.getElem?_eq_getElem hil)
      obtain ⟨m, hm⟩ : ∃ m, ms[i] = m := ⟨_, rfl⟩
      have hmi : Hid (ms[i]? = some m) := by show _ = _; rw [List.getElem?_eq_getElem hil, hm]
      have hok := Lib.hid (hqd.out m (List.mem_of_getElem? hmi.out))
      rw [hm] at hs hg
      obtain ⟨Ax, nx, cx, rfl, hrx⟩ := hs
      have hbz := hmd.out.below
      have hg2 : wr.rangeAt b (off + i * 6) [.int .i64 m.kind, .int .i64 m.src, .int .i64 m.to, .int .i64 m.origin, .int .i64 m.number, .slice Ax nx cx] := rangeAt_up hg (fun j => hbz.cell (p := ⟨b, j, none⟩) hbs)
      have hdis := Lib.hid ((hrx.fr (Fr.of_below (F := fun i => w.heap.size ≤ i) hbz) (fun i h => by omega)).mono (T := fun i => L i = .no) (fun i _ h => Classical.byContradiction (fun hx => by have := hmd.out.labs i hx; omega)))
      have hid30 : Hid (q.done.length < 1000000) := by show _ < _; omega
      clear hg hm hrx hbz hil
      go_wp2_with ((with_reducible refine wpl_load_pkt rfl 35 (.tmp 55) rfl b (off + i * 6) ?_ _ _ _ _ _ _ hg2 _ Try.underlying35 rfl ?_ ?_); rfl; kernel_rfl)
      refine (recv_any hmd.out.proc m hdis.out hok.out.2.2.2.2.2 hok.out.2.2.2.2.1.2 hid30.out).mono ?_
      intro e w3 hrec
      obtain ⟨L3, A3, n3, c3, rfl, -, hm3, -, -, -⟩ := hmd.out.recv hrec
      have hdl3 : Hid ((Bra.recv q m).1.done.length ≤ i + 1) := by show _ ≤ _; have := Bra.done_recv q m; omega
      have hk3 : Hid (∀ k m', k ≤ i → ms[k]? = some m' → Bra.Known (Bra.recv q m).1 m') := fun k m' hk hx => by
        by_cases hki : k < i
        · exact Bra.known_mono (hkd.out k m' hki hx)
        · obtain rfl : k = i := by omega
          rw [hmi.out] at hx
          cases hx
          exact Bra.known_after q m
      obtain ⟨q1, hq1⟩ : ∃ q1, (Bra.recv q m).1 = q1 := ⟨_, rfl⟩
      rw [hq1] at hm3 hdl3 hk3
      clear hq1 hg2 hdis hrec hkd hmd hid30 hok hmi hdl
      go_wp2_with fail
      refine (delivered_any hm3.proc).mono ?_
      rintro e w4 ⟨Ad, nd, cd, rfl, hd4, hb4⟩
      have hm4 := hm3.up hb4
      have hd4d : Hid (∃ S : Nat → Prop, RdE w4 S Ad nd cd q1.done ∧ ∀ x, S x → L3 x = .no ∧ x < w4.heap.size) := ⟨fun x => w3.heap.size ≤ x ∧ x < w4.heap.size, hd4.mono (fun x hx h => ⟨h, hx⟩), fun x hx => ⟨Classical.byContradiction (fun h => by have := hm3.proc.labs x h; omega), hx.2⟩⟩
      clear hm3 hd4 hb4
      have hm4d := Lib.hid hm4
      clear hm4
      go_wp2_with fail
      go_loopw [11] (fun t11 wr => ∃ (j : Nat) (L : Nat → Lab) (S : Nat → Prop), j ≤ i + 1 ∧ t11 = .int .i64 j ∧ Mine w wr L G q1 ∧ RdE wr S Ad nd cd q1.done ∧ ∀ x, S x → L x = .no ∧ x < wr.heap.size) (fun t11 _ => i + 1 - (intOf t11).toNat)
      case atStart =>
        obtain ⟨S, hS1, hS2⟩ := hd4d.out
        exact ⟨0, L3, S, by omega, rfl, hm4d.out, hS1, hS2⟩
      case round =>
        clear hd4d hm4d
        obtain ⟨j, L5, S5, hj, rfl, hm5, hd5, hS5⟩ := hrel
        have hm5d := Lib.hid hm5
        have hd5d := Lib.hid hd5
        have hS5d := Lib.hid hS5
        clear hm5 hd5 hS5
        by_cases hji : j ≤ i
        · have hjI : (j : Int) ≤ (i : Int) := by omega
          have hjl : j < ms.length := by have := hl.out; omega
          obtain ⟨b2, off2, s2, hA2, hbs2, -, hs2, hg2⟩ := hrd.out.get (List.getElem?_eq_getElem hjl)
          cases hA2
          obtain ⟨m2, hm2⟩ : ∃ m2, ms[j] = m2 := ⟨_, rfl⟩
          have hmj : Hid (ms[j]? = some m2) := by show _ = _; rw [List.getElem?_eq_getElem hjl, hm2]
          have hok2 := Lib.hid (hqd.out m2 (List.mem_of_getElem? hmj.out))
          rw [hm2] at hs2 hg2
          obtain ⟨Ay, ny, cy, rfl, hry⟩ := hs2
          have hbz2 := hm5d.out.below
          have hg3 : wr.rangeAt b (off + j * 6) [.int .i64 m2.kind, .int .i64 m2.src, .int .i64 m2.to, .int .i64 m2.origin, .int .i64 m2.number, .slice Ay ny cy] := rangeAt_up hg2 (fun j => hbz2.cell (p := ⟨b, j, none⟩) hbs2)
          have hdis2 := Lib.hid ((hry.fr (Fr.of_below (F := fun i => w.heap.size ≤ i) hbz2) (fun i h => by omega)).mono (T := fun i => L5 i = .no) (fun i _ h => Classical.byContradiction (fun hx => by have := hm5d.out.labs i hx; omega)))
          have hid31 : Hid (q1.done.length < 1000000) := by show _ < _; have := hdl3.out; omega
          have hkr : Hid (Bra.recv q1 m2 = (q1, [])) := Bra.known_recv (hk3.out j m2 hji hmj.out)
          have hltJ : (j : Int) < (len : Int) := by omega
          clear hg2 hm2 hry hbz2 hjl
          go_wp2_with ((with_reducible refine wpl_load_pkt rfl 35 (.tmp 68) rfl b (off + j * 6) ?_ _ _ _ _ _ _ hg3 _ Try.underlying35 rfl ?_ ?_); rfl; kernel_rfl)
          refine (recv_any hm5d.out.proc m2 hdis2.out hok2.out.2.2.2.2.2 hok2.out.2.2.2.2.1.2 hid31.out).mono ?_
          intro e w6 hrec
          obtain ⟨L6, A6, n6, c6, rfl, hn6, hm6, -, hlk6, hf6⟩ := hm5d.out.recv hrec
          rw [hkr.out] at hn6 hm6
          have hn6' : n6 = 0 := hn6
          subst hn6'
          have hlk6d := Lib.hid hlk6
          have hf6d := Lib.hid hf6
          have hm6d : Hid (Mine w w6 L6 G q1) := hm6
          clear hn6 hrec hlk6 hf6 hm6
          go_wp2_with fail
          go_roundw
          case rel =>
            refine ⟨j + 1, L6, S5, by omega, by go_num, hm6d.out, hd5d.out.fr hf6d.out (fun x hx h => h (hS5d.out x hx).1), fun x hx => ⟨?_, ?_⟩⟩
            · rw [hlk6d.out x (hS5d.out x hx).2]; exact (hS5d.out x hx).1
            · exact Nat.lt_of_lt_of_le (hS5d.out x hx).2 hf6d.out.size
          case measure => simp [intOf]; omega
        · have hjI : ¬ (j : Int) ≤ (i : Int) := by omega
          go_wp2_with fail
          refine (delivered_any hm5d.out.proc).mono ?_
          rintro e w7 ⟨Ae, ne, ce, rfl, hd7, hb7⟩
          have hm7 := hm5d.out.up hb7
          have hd57 := hd5d.out.fr (Fr.of_below (F := fun _ => False) hb7) (fun _ _ h => h)
          have hdn := Lib.hid (done_same w7 hd57 hd7 (by have := hdl3.out; omega))
          clear hd57 hd7 hb7
          have hm7d := Lib.hid hm7
          clear hm7
          go_wp2_with fail
          refine hdn.out.mono ?_
          rintro e w8 ⟨rfl, hb8⟩
          have hm8 := hm7d.out.up hb8
          go_wp2_with fail
          go_roundw
          case rel => exact ⟨i + 1, q1, L5, by omega, by go_num, hm8, hdl3.out, fun k m' hk hx => hk3.out k m' (by omega) hx⟩
          case measure => simp [intOf]; omega
    · have hltI : ¬ (i : Int) < (len : Int) := by omega
      go_wp2_with fail
      go_ret
      exact ⟨rfl, hmd.out.below⟩
set_option maxRecDepth 100000 in
theorem walk_no (w : World) (n self : Int) (A : Option Addr) (len c : Nat) (h : n < 1 ∨ 7 < n ∨ self < 0 ∨ n ≤ self ∨ 30 < len) :
    Calls Try.prog 6 #[.int .i64 n, .int .i64 self, .slice A len c] w fun e w' => e = .returned (.bool true) ∧ Below w.heap.size w w' := by
  by_cases c1 : n < 1
  · clear h
    go_enter Try.func6, Try.ntmps6
    go_wp2_with fail
    refine (awake_any _).mono ?_
    rintro e w1 ⟨rfl, hb1⟩
    go_wp2_with fail
    go_ret
    exact ⟨rfl, hb1⟩
  · by_cases c2 : 7 < n
    · clear h
      go_enter Try.func6, Try.ntmps6
      go_wp2_with fail
      refine (awake_any _).mono ?_
      rintro e w1 ⟨rfl, hb1⟩
      go_wp2_with fail
      go_ret
      exact ⟨rfl, hb1⟩
    · by_cases c3 : self < 0
      · clear h
        go_enter Try.func6, Try.ntmps6
        go_wp2_with fail
        refine (awake_any _).mono ?_
        rintro e w1 ⟨rfl, hb1⟩
        go_wp2_with fail
        go_ret
        exact ⟨rfl, hb1⟩
      · by_cases c4 : n ≤ self
        · clear h
          go_enter Try.func6, Try.ntmps6
          go_wp2_with fail
          refine (awake_any _).mono ?_
          rintro e w1 ⟨rfl, hb1⟩
          go_wp2_with fail
          go_ret
          exact ⟨rfl, hb1⟩
        · have c5 : (30 : Int) < (len : Int) := by omega
          clear h
          go_enter Try.func6, Try.ntmps6
          go_wp2_with fail
          refine (awake_any _).mono ?_
          rintro e w1 ⟨rfl, hb1⟩
          go_wp2_with fail
          go_ret
          exact ⟨rfl, hb1⟩
theorem walk (w : World) (n : Int) (_hn : -9223372036854775808 ≤ n ∧ n ≤ 9223372036854775807) (self : Int) (_hs : -9223372036854775808 ≤ self ∧ self ≤ 9223372036854775807) {A : Option Addr} {len c : Nat} {ms : List Bra.Pkt} (hr : RdP w (fun _ => True) A len c ms) (hq : ∀ m ∈ ms, PktOk m) :
    Calls Try.prog 6 #[.int .i64 n, .int .i64 self, .slice A len c] w fun e w' => e = .returned (.bool true) ∧ Below w.heap.size w w' := by
  by_cases h : n < 1 ∨ 7 < n ∨ self < 0 ∨ n ≤ self ∨ 30 < len
  · exact walk_no w n self A len c h
  · obtain ⟨N, rfl⟩ : ∃ N : Nat, n = (N : Int) := ⟨n.toNat, by omega⟩
    obtain ⟨S, rfl⟩ : ∃ S : Nat, self = (S : Int) := ⟨self.toNat, by omega⟩
    exact walk_yes w N S (by omega) (by omega) (by omega) hr hq (by omega)
theorem contract (H : Type) (enc : TypeId × Value → H) (W : World) (base : Nat) (args : Array Value) (ds gs : List (DataW H)) (before : List MemPlace)
    (hval : ∀ (j : Nat) t v, Try.f6.params[j]? = some t → args[j]? = some v → Value.okWide Try.prog W .any base t v)
    (hW : DataW.Whole enc Try.prog Try.f6.params.toList Rows.brachaRepeatsSpec.vars false W args.toList ds gs before) (hsz : (DataW.weightsEach Try.prog (Try.f6.params.toList ++ Rows.brachaRepeatsSpec.plain.varTypes Try.prog) (ds ++ gs)).all (· ≤ reachBytes) = true) :
    Calls Try.prog 6 args W fun e W' => ∃ v, e = .returned v ∧ Rows.brachaRepeatsSpec.post enc Try.prog Try.f6 false true false false W args v W' := by
  have hW' := hW
  obtain ⟨p, q, hA0, hV, rfl, hfz, hnd⟩ := hW
  have hA : DataW.TrodAll enc Try.prog W 0 (fun _ => true) true Try.f6.params.toList args.toList ds p := hA0
  rw [Try.params6] at hA hval hsz
  obtain ⟨v0, vs0, d0, ds0, p0, q0, hargs, rfl, rfl, h0, r0⟩ := trodAll_cons hA
  obtain ⟨v1, vs1, d1, ds1, p1, q1, rfl, rfl, rfl, h1, r1⟩ := trodAll_cons r0
  obtain ⟨v2, vs2, d2, ds2, p2, q2, rfl, rfl, rfl, h2, r2⟩ := trodAll_cons r1
  obtain ⟨rfl, rfl, rfl⟩ := trodAll_nil r2
  obtain rfl : args = #[v0, v1, v2] := by cases args; simp_all
  obtain ⟨rfl, rfl⟩ := trodVars_none hV
  obtain ⟨a2, len2, cap2, rfl⟩ := okWide_slice Try.underlying22 (hval 2 22 v2 rfl rfl)
  have k0 := h0
  have lt0 : ∀ x ∈ p0, x.block < W.heap.size := by obtain ⟨m, hm⟩ := k0; exact DataW.trod_lt m _ _ _ hm
  obtain ⟨n0, rfl, -, -, z0⟩ := open_int Try.underlying3 (hval 0 3 v0 rfl rfl) h0
  have k1 := h1
  have lt1 : ∀ x ∈ p1, x.block < W.heap.size := by obtain ⟨m, hm⟩ := k1; exact DataW.trod_lt m _ _ _ hm
  obtain ⟨n1, rfl, -, -, z1⟩ := open_int Try.underlying3 (hval 1 3 v1 rfl rfl) h1
  have k2 := h2
  have lt2 : ∀ x ∈ p2, x.block < W.heap.size := by obtain ⟨m, hm⟩ := k2; exact DataW.trod_lt m _ _ _ hm
  obtain ⟨ms2, hrp2, hqp2⟩ := pkts_of_trod Try.underlying22 Try.underlying35 (by kernel_rfl) rfl rfl rfl rfl rfl rfl rfl rfl rfl rfl rfl rfl rfl rfl rfl rfl rfl rfl rfl Try.underlying3 (by kernel_rfl) (by kernel_rfl) Try.underlying33 Try.underlying5 (by kernel_rfl) (by kernel_rfl) h2 (fun k hk => of_decide_eq_true (List.all_eq_true.1 hsz _ (DataW.weights_mem_each (j := 2) rfl rfl k hk)))
  clear hA0
  refine (walk W n0 (bounds_i64 z0) n1 (bounds_i64 z1) hrp2 hqp2).mono fun e W' ⟨he, bel⟩ => ?_
  subst he
  exact ⟨_, rfl, _, _, _, [], _, [], hW', trodAll_mk1 (shut_bool Try.underlying4 _), (trodAll_cons_mk (Below.trod laidOut (by kernel_rfl) (of_decide_eq_true (by kernel_rfl)) k0 bel lt0) (trodAll_cons_mk (Below.trod laidOut (by kernel_rfl) (of_decide_eq_true (by kernel_rfl)) k1 bel lt1) (trodAll_cons_mk (Below.trod laidOut (by kernel_rfl) (of_decide_eq_true (by kernel_rfl)) k2 bel lt2) trodAll_mk0))), rfl, bel.frame _, fun h => by cases h⟩
set_option maxRecDepth 100000 in
theorem lifted (os : Os) (started : os.Started) (H : Type) (enc : TypeId × Value → H) :
    ReturnsInHanded {} Try.checked os 6 .any (Rows.brachaRepeatsSpec.pre6 enc Try.prog Try.f6 Rows.brachaRepeatsRow.domain false) (Rows.brachaRepeatsSpec.post enc Try.prog Try.f6 false true false false) := by
  refine returnsInHanded_of_change_sized (C := Try.checked) own started (by kernel_rfl) Try.func6
    (ChangeSpec.witness6 (enc := enc) (C := Try.checked) false ⟨#[], #[.int .i64 0, .int .i64 0, .slice none 0 0], []⟩ 8 (by kernel_rfl) (by kernel_rfl) (by kernel_rfl) (by kernel_rfl)) ?_
  intro W base args ds gs before hval hW _ hsz _
  exact contract H enc W base args ds gs before hval hW hsz
theorem said : Rows.BrachaRepeatsSaid :=
  OpenClaim.holds_of_wide 6 Try.f6 rfl rfl rfl rfl rfl rfl rfl ⟨rfl, rfl, rfl, rfl, rfl⟩ rfl rfl rfl rfl rfl (by kernel_rfl) Try.func6 (by kernel_rfl)
    (of_decide_eq_true (by kernel_rfl)) (by unfold Func.isWrapper; first | (rw [if_pos (by decide +kernel)]; kernel_rfl) | (rw [if_neg (by decide +kernel)]; exact ⟨rfl, rfl⟩))
    (fun os started H enc _ => lifted os started H enc)
#print axioms said
end Go.Proofs.Ytplijfgjdlghbaa.brachaRepeats

/-
  When, after such a run, all messages between honest processes have arrived, all honest processes have delivered the same broadcasts, and all broadcasts of honest processes.
-/
import Derived.Test.YtplijfgjdlghbaaBAgr
import Derived.Test.YtplijfgjdlghbaaBRunNo
import Derived.Test.YtplijfgjdlghbaaBHd
namespace Go.Proofs.Ytplijfgjdlghbaa
open Go.RowKit Go.Pl
set_option maxRecDepth 100000 in
set_option maxHeartbeats 8000000 in
theorem calm_any {w : World} {K : Nat → GL} {g : Nat} {s : Bra.Grp} (h : GrpAt w K g s) {n : Nat} {liar : Nat → Bool} {ks : List (Int × Int)} {most : Nat} (hm : most ≤ 100000) (h7 : n ≤ 7) (hf : (Bra.bads n liar).length ≤ Bra.faults n) (ht : Bra.Tame n liar ks most 0 s) :
    Calls Try.prog 21 #[.pointer (some ⟨g, 0, none⟩), .int .i64 most] w fun e w' => e = .returned (.bool true) ∧ ∃ K' i s', GrpAt w' K' g s' ∧ Went w K w' K' ∧ Bra.Tame n liar ks most i s' ∧ s'.pending = [] := by
  have hh := Lib.hid h
  have hfd := Lib.hid hf
  have htd := Lib.hid ht
  clear h hf ht
  go_enter Try.func21, Try.ntmps21
  go_wp2_with fail
  go_loopw [5] (fun t5 wr => ∃ (i : Nat) (K' : Nat → GL) (s' : Bra.Grp), i ≤ most ∧ t5 = .int .i64 i ∧ GrpAt wr K' g s' ∧ Went w K wr K' ∧ Bra.Tame n liar ks most i s') (fun t5 _ => most - (intOf t5).toNat)
  case atStart => exact ⟨0, K, s, by omega, rfl, hh.out, Went.refl _ _, htd.out⟩
  case round =>
    obtain ⟨i, K1, s1, hi, rfl, hG0, hw, htm⟩ := hrel
    clear hh htd
    obtain ⟨Lb, Gs, AA, an, ac, av, PA, pn, pc, pv, CA, cn, cc, cv, hG⟩ := hG0
    have hpnl : Hid (s1.pending.length = pn) := hG.pnLen.symm
    have hdue : pn + i ≤ most := by have h3 := htm.due; unfold Bra.due at h3; have h5 := hpnl.out; omega
    have g1 : wr.cell? ⟨g, 1, none⟩ = some (.slice PA pn pc) := (hG.blk.cell 1).trans rfl
    have hGd := Lib.hid hG
    have hwd := Lib.hid hw
    have htmd := Lib.hid htm
    clear hG hw htm
    by_cases hp0 : pn = 0
    · have hpI : ¬ (0 : Int) < (pn : Int) := by omega
      have hpB : ((pn : Int) == 0) = true := by simp [hp0]
      have hpe : Hid (s1.pending = []) := List.eq_nil_of_length_eq_zero (by rw [hpnl.out]; exact hp0)
      clear hp0
      by_cases him : i < most
      · have himI : (i : Int) < (most : Int) := by omega
        go_wp2_with fail
        go_ret
        exact ⟨rfl, K1, i, s1, hGd.out.at_, hwd.out, htmd.out, hpe.out⟩
      · have himI : ¬ (i : Int) < (most : Int) := by omega
        go_wp2_with fail
        go_ret
        exact ⟨rfl, K1, i, s1, hGd.out.at_, hwd.out, htmd.out, hpe.out⟩
    · have hpI : (0 : Int) < (pn : Int) := by omega
      have him : (i : Int) < (most : Int) := by omega
      obtain ⟨m0, r, hmr⟩ : ∃ m0 r, s1.pending = m0 :: r := by
        cases hx : s1.pending with
        | nil => have h3 := hpnl.out; rw [hx] at h3; exact absurd h3.symm hp0
        | cons a l => exact ⟨a, l, rfl⟩
      have hmrd := Lib.hid hmr
      have hm0 : s1.pending[0]? = some m0 := by rw [hmr]; rfl
      obtain ⟨sv, hs, hgt⟩ := hGd.out.pks.get hm0
      obtain ⟨pb, po, hPA, -, hpb, hpat⟩ := hGd.out.prow.row.at_ (by omega)
      have hrg : wr.rangeAt pb po [.int .i64 m0.kind, .int .i64 m0.src, .int .i64 m0.to, .int .i64 m0.origin, .int .i64 m0.number, sv] := fun i v hi => by
        have hi6 : i < 6 := (List.getElem?_eq_some_iff.1 hi).1
        rw [hpat i (by omega)]
        have h3 := hgt i v hi
        rwa [Nat.zero_mul, Nat.zero_add] at h3
      obtain ⟨A0, n0, c0, rfl, hr0⟩ := hs
      subst hPA
      have hr0d := Lib.hid hr0
      have hpf := Lib.hid (htmd.out.pkt m0 (by rw [hmr]; exact List.mem_cons_self))
      clear hm0 hgt hpat hpb hr0 hmr hp0
      go_upto_region 5 with ((with_reducible refine wpList_load_mid rfl 35 (.tmp 24) rfl pb po ?_ _ _ hrg Try.underlying35 rfl ?_ ?_); rfl; kernel_rfl)
      obtain ⟨wy, hwy⟩ : ∃ x, wr.alloc (.cells #[.int .i64 m0.kind, .int .i64 m0.src, .int .i64 m0.to, .int .i64 m0.origin, .int .i64 m0.number, .slice A0 n0 c0] 35) = x := ⟨_, rfl⟩
      have hY : Hid (Blk wy wr.heap.size 35 #[.int .i64 m0.kind, .int .i64 m0.src, .int .i64 m0.to, .int .i64 m0.origin, .int .i64 m0.number, .slice A0 n0 c0]) := by show Blk _ _ _ _; rw [← hwy]; exact Blk.new' rfl
      have hby : Below wr.heap.size wr wy := by rw [← hwy]; exact (Below.refl _ _).alloc (Nat.le_refl _) _
      rw [hwy]
      have hGy : Hid (GrpIn wy K1 g s1 Lb Gs AA an ac av (some ⟨pb, po, none⟩) pn pc pv CA cn cc cv) := hGd.out.upTo hby
      have hwy2 : Hid (Went w K wy K1) := hwd.out.up hby
      have hry : Hid (Rd wy (fun y => K1 y = .no) A0 n0 c0 m0.payload) := hr0d.out.fr (Fr.of_below (F := fun _ => False) hby) (fun _ _ h => h)
      have hKy : Hid (K1 wr.heap.size = .no) := Classical.byContradiction fun hz => by have := hGd.out.labs _ hz; omega
      obtain ⟨yb, hyb⟩ : ∃ x, wr.heap.size = x := ⟨_, rfl⟩
      rw [hyb] at hY hKy ⊢
      clear hwy hby hGd hwd hr0d g1 hrg hyb
      have g1 : wy.cell? ⟨g, 1, none⟩ = some (.slice (some ⟨pb, po, none⟩) pn pc) := (hGy.out.blk.cell 1).trans rfl
      have fz := hGy.out.blk.frozen 1
      go_upto_region 6 with fail
      obtain ⟨PF, hPF⟩ : ∃ PF, (if pc = 1 then some (⟨pb, po, none⟩ : Addr) else some (⟨pb, po + 6, none⟩ : Addr)) = PF := ⟨_, rfl⟩
      have hPFd : Hid ((if pc = 1 then some (⟨pb, po, none⟩ : Addr) else (some (⟨pb, po, none⟩ : Addr)).map (·.add (1 * 6))) = PF) := by show _ = _; rw [← hPF]; simp [add_none]
      rw [hPF]
      clear hPF
      obtain ⟨w4, hw4⟩ : ∃ x, wy.setCell ⟨g, 1, none⟩ (.slice PF (pn - 1) (pc - 1)) = x := ⟨_, rfl⟩
      rw [hw4]
      have f34 : Fr (fun i => i = g) wy w4 := by rw [← hw4]; exact (Fr.refl (fun i => i = g) wy).setCell (p := ⟨g, 1, none⟩) (.inl rfl) _
      have hblk4 := hGy.out.blk.set_ 1 (.slice PF (pn - 1) (pc - 1))
      rw [hw4] at hblk4
      have hgP : ∀ b, (Value.slice PF (pn - 1) (pc - 1)).ownBlock = some b → (Value.slice (some ⟨pb, po, none⟩) pn pc).ownBlock = some b := by rw [← hPFd.out]; exact mid_own
      have hown4 : OwnO w4 35 6 PF (pn - 1) (pc - 1) (pv.drop 6) := by
        have h3 := hGy.out.prow.from_ (k := 1) (by omega)
        rw [hPFd.out] at h3
        exact h3.fr f34 (fun b e hb => by
          have h5 := hGy.out.plab b (hgP b e)
          rw [hb, hGy.out.lab] at h5; cases h5)
      have hpk := hGy.out.pks
      rw [hmrd.out] at hpk
      obtain ⟨K4, hG4, -, hwt4⟩ := hGy.out.pend (w' := w4) (ms := r) (f34.mono (fun _ h => .inl (.inr h))) hblk4 hown4 (fun b e => .inl (hgP b e)) hpk.tail
      have hY4 := Lib.hid (hY.out.fr hwt4.2 (fun h => h.1 hKy.out))
      have hre4 : Hid (Rd w4 (fun y => K4 y = .no) A0 n0 c0 m0.payload) := ((hry.out.mono (T := fun i => K1 i = .no ∧ i < wy.heap.size) (fun i hi h => ⟨h, hi⟩)).fr hwt4.2 (fun i hi h => h.1 hi.1)).mono (fun i hi h => by show K4 i = .no; rw [hwt4.1 i h.2]; exact h.1)
      have hw04 : Hid (Went w K w4 K4) := hwy2.out.trans hwt4
      have hG4d := Lib.hid hG4
      have hrl : Hid (r.length ≤ 100000) := by
        have h5 := hpnl.out
        rw [hmrd.out] at h5
        simp at h5
        show _ ≤ _
        omega
      clear hw4 f34 hblk4 hgP hown4 hpk hG4 hwt4 hGy hY hry hwy2 g1 fz
      have hYd := hY4.out
      go_wp2_with ((with_reducible refine wpl_load_part rfl 35 (.tmp 6) rfl yb 0 ?_ 35 _ hYd #[.int .i64 m0.kind, .int .i64 m0.src, .int .i64 m0.to, .int .i64 m0.origin, .int .i64 m0.number, .slice A0 n0 c0] rfl _ Try.underlying35 rfl (by kernel_rfl) ?_); rfl)
      clear hYd
      refine (receive_any hG4d.out.at_ m0 hre4.out hpf.out.1 hpf.out.2 (fun i p hp => by have h3 := htmd.out.done i p hp; omega) (by have h5 := hrl.out; show r.length + 64 ≤ _; omega) (by show s1.all.length ≤ _; rw [htmd.out.hold.all]; omega)).mono ?_
      rintro e w6 ⟨rfl, K6, hG6, hwt6⟩
      have hG6d := Lib.hid hG6
      have hw06 : Hid (Went w K w6 K6) := hw04.out.trans hwt6
      clear hG6 hwt6 hw04 hG4d hre4 hY4
      go_wp2_with fail
      go_roundw
      case rel => exact ⟨i + 1, K6, _, by omega, by go_num, hG6d.out, hw06.out, htmd.out.take hfd.out h7 hmrd.out⟩
      case measure => simp [intOf]; omega
end Go.Proofs.Ytplijfgjdlghbaa
namespace Go.Proofs.Ytplijfgjdlghbaa.brachaTotal
open Go.ChangeShapes Go.WideShapes Go.ChangeAt Go.RowKit Go.Pl
theorem wpq_load_three {P : Program} {ops : Array Oper} {rest : List Oper} {o : Oper} {a : Act} {C : World → Prop} {R : Act → Prop} (hgd : o.guard = none) (ty : TypeId) (x : Operand) (hop : o.op = .load ty x) (g k : Nat) (hx : a.eval x = .pointer (some ⟨g, k, none⟩)) (v0 v1 v2 : Value) (hr : ∀ w, C w → w.rangeAt g k [v0, v1, v2])
    (d : TypeDesc) (hu : P.underlying ty = some d) (hd : d.isRow = true) (hi : (P.info? ty).map (·.size) = some 3)
    (h : wpQuiet P ops C R rest (a.put o.dst (.agg #[v0, v1, v2]))) : wpQuiet P ops C R (o :: rest) a :=
  BigFrame.wpQuiet_want (by simp [Region.wanted, hgd]) fun K hK => ⟨.agg #[v0, v1, v2], fun w hw => by
    have hl := run_loadVar_mid (P := P) w g k ty [v0, v1, v2] d (hr w hw) hu hd (by simpa using hi)
    unfold Oper.quietAt execOp
    simp only [hop, hx, Instr.loadAt, Instr.sureAddr, Sem.run_bind, Sem.run_pure, Result.andThen_ok, hl]
    exact ⟨rfl, rfl⟩, hK _ h⟩
set_option maxRecDepth 100000 in
set_option maxHeartbeats 16000000 in
theorem walk (w : World) (n : Int) (_hn : -9223372036854775808 ≤ n ∧ n ≤ 9223372036854775807) {LA : Option Addr} {ln lc : Nat} {bs : List Bool} (hls : Row w (fun _ => True) 1 LA ln lc (bs.map bv)) {A : Option Addr} {len c : Nat} {xs : List Bra.Act} (hr : RdA w (fun _ => True) A len c xs) (hq : ∀ x ∈ xs, ActOk x) :
    Calls Try.prog 5 #[.int .i64 n, .slice LA ln lc, .slice A len c] w fun e w' => e = .returned (.bool true) ∧ Below w.heap.size w w' := by
  have hlsd := Lib.hid hls
  have hrd := Lib.hid hr
  have hqd := Lib.hid hq
  clear hls hr hq
  go_enter Try.func5, Try.ntmps5
  go_wp2_with fail
  refine (awake_any _).mono ?_
  rintro e w1 ⟨rfl, hb1⟩
  have hb1d := Lib.hid hb1
  by_cases hno : n < 1 ∨ 7 < n ∨ 80 < len
  · go_wp2_with fail
    refine (run_no w1 n LA ln lc A len c hno).mono ?_
    rintro e w2 ⟨g, rfl, hb2⟩
    clear hno
    go_wp2_with fail
    go_ret
    exact ⟨rfl, hb1d.out.trans (hb2.mono hb1d.out.size)⟩
  · obtain ⟨N, rfl⟩ : ∃ N : Nat, n = (N : Int) := ⟨n.toNat, by omega⟩
    have h1 : 1 ≤ N := by omega
    have h7 : N ≤ 7 := by omega
    have h80 : len ≤ 80 := by omega
    clear hno
    have hls1 := Lib.hid (hlsd.out.fr (Fr.of_below (F := fun _ => False) hb1) (fun _ _ h => h))
    have hr1 := Lib.hid (hrd.out.fr (Fr.of_below (F := fun _ => False) hb1) (fun _ _ h => h))
    clear hlsd hb1
    obtain ⟨liar, hliar⟩ : ∃ liar : Nat → Bool, ∀ i, liar i = bs.getD i false := ⟨fun i => bs.getD i false, fun _ => rfl⟩
    have hlid := Lib.hid hliar
    clear hliar
    go_wp2_with fail
    refine (run_any w1 N h1 h7 hls1.out hr1.out hqd.out h80 liar hlid.out).mono ?_
    intro e w2 hran
    by_cases hf : (Bra.bads N liar).length ≤ Bra.faults N
    · obtain ⟨g, K, rfl, hG, hb2, hlow⟩ := hran.1 hf
      have hlen : xs.length = len := hrd.out.1
      have hxf : ∀ x ∈ xs, x.p.payload.length ≤ 140737488355328 ∧ x.p.number ≤ 9223372036854775807 := fun x hx => ⟨(hqd.out x hx).2.2.2.2.2.2.2, (hqd.out x hx).2.2.2.2.2.2.1.2⟩
      have hfine := Bra.fine_run h7 liar (xs := xs) (by omega) hxf
      obtain ⟨ks, hks, hkl⟩ := Bra.keys_run N liar xs
      have hh0 := Bra.Hold.run hf xs
      have htame : Hid (Bra.Tame N liar ks 20000 0 (xs.foldl (Bra.Grp.act N (Bra.bads N liar)) (Bra.Grp.start N liar))) :=
        ⟨hh0, hks, by have h3 := Bra.due_le hfine.all h7 ks; have h4 := hfine.pend; omega, fun j p hp => by have := hfine.proc j p hp; omega, hfine.pkt⟩
      have hfd := Lib.hid hf
      have hGd := Lib.hid hG
      have hb2d : Hid (Below w.heap.size w w2) := hb1d.out.trans (hb2.mono hb1d.out.size)
      have hlowd : Hid (∀ y, K y ≠ .no → w.heap.size ≤ y) := fun y hy => Nat.le_trans hb1d.out.size (hlow y hy)
      clear hran hf hG hb2 hfine hlen hxf hks hkl hh0 hlow hb1d hls1 hr1 hrd hqd hlid h80
      go_wp2_with fail
      refine (calm_any hGd.out (most := 20000) (by omega) h7 hfd.out htame.out).mono ?_
      rintro e w3 ⟨rfl, K3, ci, s3, hG3, hwt3, htm3, hpe3⟩
      have hb3d : Hid (Below w.heap.size w w3) := hb2d.out.trans (hwt3.2.below (fun y hy => hlowd.out y hy.1) hb2d.out.size)
      have hG3d := Lib.hid hG3
      have htm3d := Lib.hid htm3
      have hpe3d := Lib.hid hpe3
      clear hGd htame hG3 hwt3 htm3 hpe3 hb2d hlowd
      go_wp2_with fail
      have hag := htm3d.out.hold.agree h1 hfd.out
      refine (agree_yes hG3d.out hag (by rw [htm3d.out.hold.all]; exact h7) (by rw [htm3d.out.hold.all, htm3d.out.hold.casts]) (fun j p hp => by have h3 := htm3d.out.done j p hp; have h4 := htm3d.out.due; omega)).mono ?_
      rintro e w4 ⟨rfl, hb4⟩
      obtain ⟨Lb, Gs, AA, an, ac, av, PA, pn, pc, pv, CA, cn, cc, cv, hG4⟩ := hG3d.out.up hb4
      obtain rfl : N = an := by rw [hG4.anLen, htm3d.out.hold.all]
      obtain rfl : N = cn := by rw [hG4.cnLen, htm3d.out.hold.casts]
      have hG4d := Lib.hid hG4
      have hb4d : Hid (Below w.heap.size w w4) := hb3d.out.trans (hb4.mono hb3d.out.size)
      clear hag hG4 hb4 hG3d hb3d
      have heq := @eq_nil_proc
      go_wp2_with fail
      go_loopw [9] (fun t9 wr => ∃ i : Nat, i ≤ N ∧ t9 = .int .i64 i ∧ Below w4.heap.size w4 wr) (fun t9 _ => N - (intOf t9).toNat)
      case atStart => exact ⟨0, by omega, rfl, Below.refl _ _⟩
      case round =>
        obtain ⟨i, hi, rfl, hb⟩ := hrel
        have hbd := Lib.hid hb
        have hGr := Lib.hid (hG4d.out.upTo hb)
        have g0 : wr.cell? ⟨g, 0, none⟩ = some (.slice AA N ac) := (hGr.out.blk.cell 0).trans rfl
        clear hb
        by_cases hlt : i < N
        · have hltI : (i : Int) < (N : Int) := by omega
          rcases hGr.out.ask (i : Int) with ⟨h3, -⟩ | ⟨h3, -, -⟩ | ⟨i', ab, hii, -, rfl, hab, hcase⟩
          · omega
          · omega
          · obtain rfl : i' = i := by omega
            rcases hcase with ⟨-, -, hc⟩ | ⟨p, -, h4, hc⟩
            · go_wp2_with fail
              go_roundw
              case rel => exact ⟨i' + 1, by omega, by go_num, hbd.out⟩
              case measure => simp [intOf]; omega
            · have h4d := Lib.hid h4
              clear h4 hab hii
              go_wp2_with fail
              refine (delivered_any (hGr.out.proc i' p h4d.out).1).mono ?_
              rintro e w5 ⟨A1, n1, c1, rfl, hr1, hb1⟩
              obtain ⟨N1, hN1⟩ : ∃ N, p.done.length = N := ⟨_, rfl⟩
              obtain rfl : n1 = N1 := by rw [hr1.len, hN1]
              have hN1d := Lib.hid hN1
              have hN1l : n1 ≤ 1000000 := by rw [← hN1]; have h5 := htm3d.out.done i' p h4d.out; have h6 := htm3d.out.due; omega
              have hr1d := Lib.hid (hr1.mono (T := fun i => i < w5.heap.size) (fun i hi _ => hi))
              have hb5d : Hid (Below w4.heap.size w4 w5) := hbd.out.trans (hb1.mono hbd.out.size)
              obtain ⟨l, hl⟩ : ∃ l, s3.casts[i']? = some l := ⟨_, List.getElem?_eq_getElem (by rw [htm3d.out.hold.casts]; exact hlt)⟩
              obtain ⟨A0, n0, c0, hcv, hrow0, -⟩ := hG4d.out.cast i' l hl
              have hln : Hid (l.length = n0) := by show _ = _; have h6 := hrow0.1; simp at h6; omega
              have hn0 : n0 ≤ 9223372036854775807 := by have h6 := (own_row hrow0).le; have h7 := (own_row hrow0).max; simp only [maxLen] at h7; omega
              obtain ⟨cb, cq, hCA, -, hcb, hcat⟩ := (own_row hG4d.out.crow).at_ (by omega)
              have hcq : cq = 0 := by
                rcases hG4d.out.crow.2 with ⟨he, _⟩ | ⟨g', cap, cur, he, _⟩
                · cases he; cases hCA
                · cases he; cases hCA; rfl
              subst hcq
              have hck := hcat i' (by omega)
              rw [Nat.zero_add, hcv] at hck
              have hckd := Lib.hid hck
              have hcbd := Lib.hid hcb
              have hrowd := Lib.hid (own_row hrow0)
              have hld := Lib.hid hl
              have hg2 : Hid (w4.cell? ⟨g, 2, none⟩ = some (.slice (some ⟨cb, 0, none⟩) N cc)) := by show _ = _; rw [← hCA]; exact (hG4d.out.blk.cell 2).trans rfl
              clear hN1 hr1 hb1 g0 hc hGr hbd hcv hrow0 hCA hcb hcat hck hl
              go_wp2_with fail
              go_loopw [11] (fun t11 wr => ∃ k : Nat, k ≤ N ∧ t11 = .int .i64 k ∧ Below w5.heap.size w5 wr) (fun t11 _ => N - (intOf t11).toNat)
              case atStart => exact ⟨0, by omega, rfl, Below.refl _ _⟩
              case round =>
                obtain ⟨k, hk, rfl, hb⟩ := hrel
                have hbd : Hid (Below w5.heap.size w5 wr) := hb
                have hb4r : Hid (Below w4.heap.size w4 wr) := hb5d.out.trans (hb.mono hb5d.out.size)
                have hGr := Lib.hid (hG4d.out.upTo hb4r.out)
                have g0 : wr.cell? ⟨g, 0, none⟩ = some (.slice (some ⟨ab, 0, none⟩) N ac) := (hGr.out.blk.cell 0).trans rfl
                clear hb
                by_cases hkl : k < N
                · have hkI : (k : Int) < (N : Int) := by omega
                  rcases hGr.out.ask (k : Int) with ⟨h3, -⟩ | ⟨h3, -, -⟩ | ⟨k', ab', hkk, -, hab', habl, hcase⟩
                  · omega
                  · omega
                  · obtain rfl : k' = k := by omega
                    obtain rfl : ab' = ab := by cases hab'; rfl
                    rcases hcase with ⟨-, -, hc⟩ | ⟨q, -, h6, hc⟩
                    · clear hab' habl
                      go_wp2_with fail
                      go_roundw
                      case rel => exact ⟨k' + 1, by omega, by go_num, hbd.out⟩
                      case measure => simp [intOf]; omega
                    · have h6d := Lib.hid h6
                      have habd := Lib.hid habl
                      have hcd := Lib.hid hc
                      have hql : Hid (q.done.length ≤ 1000000) := by show _ ≤ _; have h5 := htm3d.out.done k' q h6d.out; have h7 := htm3d.out.due; omega
                      clear h6 hab' hkk habl
                      go_wp2_with fail
                      clear g0 hc
                      obtain ⟨wb, rfl⟩ : ∃ x, x = wr := ⟨_, rfl⟩
                      go_loopw [12] (fun t12 wr => ∃ c : Nat, c ≤ n0 ∧ t12 = .int .i64 c ∧ Below wb.heap.size wb wr) (fun t12 _ => n0 - (intOf t12).toNat)
                      case atStart => exact ⟨0, by omega, rfl, Below.refl _ _⟩
                      case round =>
                        obtain ⟨c, hc, rfl, hb⟩ := hrel
                        have hbw := Lib.hid hb
                        have hb4w : Hid (Below w4.heap.size w4 wr) := hb4r.out.trans (hb.mono hb4r.out.size)
                        have g2 : wr.cell? ⟨g, 2, none⟩ = some (.slice (some ⟨cb, 0, none⟩) N cc) := (hb4w.out.cell (p := ⟨g, 2, none⟩) hG4d.out.blk.lt).trans hg2.out
                        have gk : wr.cell? ⟨cb, i', none⟩ = some (.slice A0 n0 c0) := (hb4w.out.cell (p := ⟨cb, i', none⟩) hcbd.out).trans hckd.out
                        clear hb
                        by_cases hcl : c < n0
                        · have hcI : (c : Int) < (n0 : Int) := by omega
                          obtain ⟨bs, hbs⟩ : ∃ bs, l[c]? = some bs := ⟨_, List.getElem?_eq_getElem (by rw [hln.out]; exact hcl)⟩
                          have hin : Hid ((⟨(i' : Int), (c : Int) + 1, bs⟩ : Bra.Del) ∈ q.done) := htm3d.out.hold.total_cast h1 hfd.out hpe3d.out h4d.out (by rw [List.getD_eq_getElem?_getD, hld.out]; exact hbs) h6d.out
                          have hbl : bs.length ≤ maxLen := by
                            have h8 := (htm3d.out.hold.proc k' q h6d.out)
                            have h9 := (hGr.out.proc k' q h6d.out).1.fits _ hin.out
                            unfold Fits at h9
                            simp only [maxLen]
                            dsimp only at h9
                            omega
                          obtain ⟨sb, so, rfl, -, hsb, hsat⟩ := hrowd.out.at_ (by omega)
                          have hsk := hsat c (by omega)
                          rw [List.getElem?_map, hbs] at hsk
                          have hskd : Hid (w4.cell? ⟨sb, so + c, none⟩ = some (.string ⟨bs.toArray⟩)) := hsk
                          have hsbd := Lib.hid hsb
                          clear hsk hsat hbs hsb
                          go_upto_region 20 with fail
                          have up : ∀ {q j : Nat} {v : Value}, q < w4.heap.size → w4.cell? ⟨q, j, none⟩ = some v → ∀ w', Ab wr.drew w' → w'.cell? ⟨q, j, none⟩ = some v := fun hq hv w' h => ((Below.cell h (p := ⟨_, _, none⟩) (Nat.lt_of_lt_of_le hq hb4w.out.size)).trans (hb4w.out.cell (p := ⟨_, _, none⟩) hq)).trans hv
                          have gp : ∀ w', Ab wr.drew w' → w'.cell? ⟨g, 0, none⟩ = some (.slice (some ⟨ab', 0, none⟩) N ac) := up hG4d.out.blk.lt ((hG4d.out.blk.cell 0).trans rfl)
                          have gc := up hG4d.out.blk.lt hg2.out
                          have gk2 := up hcbd.out hckd.out
                          have gs := up hsbd.out hskd.out
                          have ga : ∀ w', Ab wr.drew w' → w'.cell? ⟨ab', k', none⟩ = some (.pointer (some ⟨Gs k', 0, none⟩)) := fun w' h => ((Below.cell h (p := ⟨ab', k', none⟩) (Nat.lt_of_lt_of_le habd.out hbw.out.size)).trans (hbw.out.cell (p := ⟨ab', k', none⟩) habd.out)).trans hcd.out
                          have hb6 : Hid (Below wb.heap.size wb wr.drew) := hbw.out.trans ((ab_drew wr).mono hbw.out.size)
                          have hG6 : Hid (GrpIn wr.drew K3 g s3 Lb Gs (some ⟨ab', 0, none⟩) N ac av PA pn pc pv CA N cc cv) := hG4d.out.upTo (hb4w.out.trans ((ab_drew wr).mono hb4w.out.size))
                          clear g2 gk hbw hb4w up hskd hsbd
                          refine wp_region_late Ab Ab.refl Ab.trans [] (.two [0, 1, 2, 4, 8, 9, 10, 11, 12, 13, 15, 18] [3, 5, 6, 14, 16, 17, 19, 20] 7 (.one [] [] 21 (.one [22] [] 23 (.last [24] []))) 21 (.one [22] [] 7 (.one [] [] 23 (.last [24] [])))) (by kernel_rfl) (by kernel_rfl) (fun _ _ _ _ _ h => h) ?_
                          simp only [wpSchV, ordPick, Option.toList_some, List.cons_append, List.nil_append, List.getElem?_cons_succ, List.getElem?_cons_zero]
                          generalize wr.drew = wd at gp gc gk2 gs ga hb6 hG6 ⊢
                          iterate 12 (go_big_quiet_step (exact fun _ => rfl))
                          refine wpQuiet_nil ?_
                          refine wpq_load_one rfl 49 (.tmp 89) rfl ⟨g, 0, none⟩ rfl _ gp _ Try.underlying49 rfl ?_
                          simp only [Act.put, List.setIfInBounds_toArray, List.set_cons_succ, List.set_cons_zero]
                          iterate 1 (go_big_quiet_step (exact fun _ => rfl))
                          refine wpq_load_one rfl 24 (.tmp 92) rfl ⟨ab', k', none⟩ rfl _ ga _ Try.underlying24 rfl ?_
                          simp only [Act.put, List.setIfInBounds_toArray, List.set_cons_succ, List.set_cons_zero]
                          refine wpq_load_one rfl 50 (.tmp 100) rfl ⟨g, 2, none⟩ rfl _ gc _ Try.underlying50 rfl ?_
                          simp only [Act.put, List.setIfInBounds_toArray, List.set_cons_succ, List.set_cons_zero]
                          iterate 1 (go_big_quiet_step (exact fun _ => rfl))
                          refine wpq_load_one rfl 53 (.tmp 103) rfl ⟨cb, i', none⟩ rfl _ gk2 _ Try.underlying53 rfl ?_
                          simp only [Act.put, List.setIfInBounds_toArray, List.set_cons_succ, List.set_cons_zero]
                          iterate 1 (go_big_quiet_step (exact fun _ => rfl))
                          refine wpq_load_one rfl 9 (.tmp 106) rfl ⟨sb, so + c, none⟩ rfl _ gs _ Try.underlying9 rfl ?_
                          simp only [Act.put, List.setIfInBounds_toArray, List.set_cons_succ, List.set_cons_zero]
                          refine wpQuiet_nil ?_
                          clear gp gc gk2 gs ga
                          refine And.intro ?_ ?_
                          · go_wp2_with fail
                            refine (delivered_any (hG6.out.proc k' q h6d.out).1).mono ?_
                            rintro e w6 ⟨A6, n6, c6, rfl, hr6, hb7⟩
                            have hr6d := Lib.hid hr6
                            have hb7d := Lib.hid hb7
                            clear hr6 hb7
                            go_wp2_with fail
                            refine And.intro (.inr hb7d.out) (wpQuiet_nil (wpQuiet_nil ?_))
                            go_wp2_with ((with_reducible refine wpl_bytes_str rfl 9 33 5 (.tmp 107) rfl ?_ ?_ ?_ bs ?_ hbl ?_); rfl; rfl; rfl; rfl; intro c7 w7 hd7 hg7)
                            have hb8 : Below w6.heap.size w6 w7 := (Below.refl _ _).grown hg7 (Nat.le_refl _) (fun k hk => by cases hk)
                            have hd7d := Lib.hid hd7
                            have hb8d := Lib.hid hb8
                            clear hd7 hg7 hb8
                            refine And.intro (.inr hb8d.out) ?_
                            dsimp only
                            iterate 1 (go_big_quiet_step (exact fun _ => rfl))
                            refine wpQuiet_nil (wpQuiet_nil ?_)
                            go_wp2_with fail
                            refine (has_yes w7 (hr6d.out.fr (Fr.of_below (F := fun _ => False) hb8d.out) (fun _ _ h => h)) hql.out ⟨(i' : Int), (c : Int) + 1, bs⟩ hd7d.out.rd hin.out).mono ?_
                            rintro e w8 ⟨rfl, hb9⟩
                            go_wp2_with fail
                            refine And.intro (.inr hb9) ?_
                            dsimp only
                            iterate 1 (go_big_quiet_step (exact fun _ => rfl))
                            refine wpQuiet_nil (wpQuiet_nil ?_)
                            go_wp2_with fail
                            go_roundw
                            case rel => exact ⟨c + 1, by omega, by go_num, ((hb6.out.trans (hb7d.out.mono hb6.out.size)).trans (hb8d.out.mono (Nat.le_trans hb6.out.size hb7d.out.size))).trans (hb9.mono (Nat.le_trans hb6.out.size (Nat.le_trans hb7d.out.size hb8d.out.size)))⟩
                            case measure => simp [intOf]; omega
                          · go_wp2_with ((with_reducible refine wpl_bytes_str rfl 9 33 5 (.tmp 107) rfl ?_ ?_ ?_ bs ?_ hbl ?_); rfl; rfl; rfl; rfl; intro c7 w7 hd7 hg7)
                            have hb8 : Below wd.heap.size wd w7 := (Below.refl _ _).grown hg7 (Nat.le_refl _) (fun k hk => by cases hk)
                            have hd7d := Lib.hid hd7
                            have hb8d := Lib.hid hb8
                            clear hd7 hg7 hb8
                            refine And.intro (.inr hb8d.out) ?_
                            dsimp only
                            iterate 1 (go_big_quiet_step (exact fun _ => rfl))
                            refine wpQuiet_nil (wpQuiet_nil ?_)
                            go_wp2_with fail
                            refine (delivered_any ((hG6.out.upTo hb8d.out).proc k' q h6d.out).1).mono ?_
                            rintro e w6 ⟨A6, n6, c6, rfl, hr6, hb7⟩
                            have hr6d := Lib.hid hr6
                            have hb7d := Lib.hid hb7
                            clear hr6 hb7
                            go_wp2_with fail
                            refine And.intro (.inr hb7d.out) (wpQuiet_nil (wpQuiet_nil ?_))
                            go_wp2_with fail
                            refine (has_yes w6 hr6d.out hql.out ⟨(i' : Int), (c : Int) + 1, bs⟩ (hd7d.out.rd.fr (Fr.of_below (F := fun _ => False) hb7d.out) (fun _ _ h => h)) hin.out).mono ?_
                            rintro e w8 ⟨rfl, hb9⟩
                            go_wp2_with fail
                            refine And.intro (.inr hb9) ?_
                            dsimp only
                            iterate 1 (go_big_quiet_step (exact fun _ => rfl))
                            refine wpQuiet_nil (wpQuiet_nil ?_)
                            go_wp2_with fail
                            go_roundw
                            case rel => exact ⟨c + 1, by omega, by go_num, ((hb6.out.trans (hb8d.out.mono hb6.out.size)).trans (hb7d.out.mono (Nat.le_trans hb6.out.size hb8d.out.size))).trans (hb9.mono (Nat.le_trans hb6.out.size (Nat.le_trans hb8d.out.size hb7d.out.size)))⟩
                            case measure => simp [intOf]; omega
                        · have hcI : ¬ (c : Int) < (n0 : Int) := by omega
                          go_wp2_with fail
                          obtain ⟨wc, rfl⟩ : ∃ x, x = wr := ⟨_, rfl⟩
                          clear g2 gk
                          go_loopw [13] (fun t13 wr => ∃ j : Nat, j ≤ n1 ∧ t13 = .int .i64 j ∧ Below wc.heap.size wc wr) (fun t13 _ => n1 - (intOf t13).toNat)
                          case atStart => exact ⟨0, by omega, rfl, Below.refl _ _⟩
                          case round =>
                            obtain ⟨j, hj, rfl, hb⟩ := hrel
                            have hbv := Lib.hid hb
                            clear hb
                            have hbr : Hid (Below wb.heap.size wb wr) := hbw.out.trans (hbv.out.mono hbw.out.size)
                            have hb5r : Hid (Below w5.heap.size w5 wr) := hbd.out.trans (hbr.out.mono hbd.out.size)
                            have hb4w2 : Hid (Below w4.heap.size w4 wr) := hb5d.out.trans (hb5r.out.mono hb5d.out.size)
                            by_cases hjl : j < n1
                            · have hjI : (j : Int) < (n1 : Int) := by omega
                              obtain ⟨d, hd⟩ : ∃ d, p.done[j]? = some d := ⟨_, List.getElem?_eq_getElem (by rw [hN1d.out]; exact hjl)⟩
                              have hin : Hid (d ∈ q.done) := htm3d.out.hold.total_del h1 hfd.out hpe3d.out h4d.out (List.mem_of_getElem? hd) h6d.out
                              obtain ⟨b, off, sv, rfl, hbs, -, hs, hg⟩ := hr1d.out.get hd
                              obtain ⟨Ax, nx, cx, rfl, hrx⟩ := hs
                              go_upto_region 25 with fail
                              have gp : ∀ w', Ab wr.drew w' → w'.cell? ⟨g, 0, none⟩ = some (.slice (some ⟨ab', 0, none⟩) N ac) := fun w' h => ((Below.cell h (p := ⟨g, 0, none⟩) (Nat.lt_of_lt_of_le hG4d.out.blk.lt hb4w2.out.size)).trans (hb4w2.out.cell (p := ⟨g, 0, none⟩) hG4d.out.blk.lt)).trans ((hG4d.out.blk.cell 0).trans rfl)
                              have ga : ∀ w', Ab wr.drew w' → w'.cell? ⟨ab', k', none⟩ = some (.pointer (some ⟨Gs k', 0, none⟩)) := fun w' h => ((Below.cell h (p := ⟨ab', k', none⟩) (Nat.lt_of_lt_of_le habd.out hbr.out.size)).trans (hbr.out.cell (p := ⟨ab', k', none⟩) habd.out)).trans hcd.out
                              have gd : ∀ w', Ab wr.drew w' → w'.rangeAt b (off + j * 3) [.int .i64 d.origin, .int .i64 d.number, .slice Ax nx cx] := fun w' h => rangeAt_up hg (fun i => (Below.cell h (p := ⟨b, i, none⟩) (Nat.lt_of_lt_of_le hbs hb5r.out.size)).trans (hb5r.out.cell (p := ⟨b, i, none⟩) hbs))
                              have hrxd : Hid (Rd wr.drew (fun _ => True) Ax nx cx d.payload) := (hrx.fr (Fr.of_below (F := fun _ => False) (hb5r.out.trans ((ab_drew wr).mono hb5r.out.size))) (fun _ _ h => h)).mono (fun _ _ _ => trivial)
                              have hb6 : Hid (Below wc.heap.size wc wr.drew) := hbv.out.trans ((ab_drew wr).mono hbv.out.size)
                              have hG6 : Hid (GrpIn wr.drew K3 g s3 Lb Gs (some ⟨ab', 0, none⟩) N ac av PA pn pc pv CA N cc cv) := hG4d.out.upTo (hb4w2.out.trans ((ab_drew wr).mono hb4w2.out.size))
                              clear hd hbs hg hrx hbv hbr hb5r hb4w2
                              refine wp_region_late Ab Ab.refl Ab.trans [] (.one [0, 1, 2, 4, 8, 9] [3, 5, 6, 10, 11] 7 (.one [] [] 12 (.last [13] []))) (by kernel_rfl) (by kernel_rfl) (fun _ _ _ _ _ h => h) ?_
                              simp only [wpSchV, ordPick, Option.toList_some, List.cons_append, List.nil_append, List.getElem?_cons_succ, List.getElem?_cons_zero]
                              generalize wr.drew = wd at gp ga gd hrxd hb6 hG6 ⊢
                              iterate 6 (go_big_quiet_step (exact fun _ => rfl))
                              refine wpQuiet_nil ?_
                              refine wpq_load_one rfl 49 (.tmp 120) rfl ⟨g, 0, none⟩ rfl _ gp _ Try.underlying49 rfl ?_
                              simp only [Act.put, List.setIfInBounds_toArray, List.set_cons_succ, List.set_cons_zero]
                              iterate 1 (go_big_quiet_step (exact fun _ => rfl))
                              refine wpq_load_one rfl 24 (.tmp 123) rfl ⟨ab', k', none⟩ rfl _ ga _ Try.underlying24 rfl ?_
                              simp only [Act.put, List.setIfInBounds_toArray, List.set_cons_succ, List.set_cons_zero]
                              iterate 1 (go_big_quiet_step (exact fun _ => rfl))
                              refine wpq_load_three rfl 56 (.tmp 128) rfl b (off + j * 3) rfl _ _ _ gd _ Try.underlying56 rfl (by kernel_rfl) ?_
                              simp only [Act.put, List.setIfInBounds_toArray, List.set_cons_succ, List.set_cons_zero]
                              refine wpQuiet_nil ?_
                              clear gp ga gd
                              go_wp2_with fail
                              refine (delivered_any (hG6.out.proc k' q h6d.out).1).mono ?_
                              rintro e w6 ⟨A6, n6, c6, rfl, hr6, hb7⟩
                              have hr6d := Lib.hid hr6
                              have hb7d := Lib.hid hb7
                              clear hr6 hb7
                              go_wp2_with fail
                              refine And.intro (.inr hb7d.out) (wpQuiet_nil (wpQuiet_nil ?_))
                              go_wp2_with fail
                              refine (has_yes w6 hr6d.out hql.out d (hrxd.out.fr (Fr.of_below (F := fun _ => False) hb7d.out) (fun _ _ h => h)) hin.out).mono ?_
                              rintro e w8 ⟨rfl, hb9⟩
                              go_wp2_with fail
                              refine And.intro (.inr hb9) ?_
                              dsimp only
                              iterate 1 (go_big_quiet_step (exact fun _ => rfl))
                              refine wpQuiet_nil (wpQuiet_nil ?_)
                              go_wp2_with fail
                              go_roundw
                              case rel => exact ⟨j + 1, by omega, by go_num, (hb6.out.trans (hb7d.out.mono hb6.out.size)).trans (hb9.mono (Nat.le_trans hb6.out.size hb7d.out.size))⟩
                              case measure => simp [intOf]; omega
                            · have hjI : ¬ (j : Int) < (n1 : Int) := by omega
                              go_wp2_with fail
                              go_roundw
                              case rel => exact ⟨k' + 1, by omega, by go_num, hb5r.out⟩
                              case measure => simp [intOf]; omega
                · have hkI : ¬ (k : Int) < (N : Int) := by omega
                  go_wp2_with fail
                  go_roundw
                  case rel => exact ⟨i' + 1, by omega, by go_num, hb4r.out⟩
                  case measure => simp [intOf]; omega
        · have hltI : ¬ (i : Int) < (N : Int) := by omega
          go_wp2_with fail
          go_ret
          exact ⟨rfl, hb4d.out.trans (hbd.out.mono hb4d.out.size)⟩
    · obtain ⟨g, rfl, hb2⟩ := hran.2 hf
      clear hran hf
      go_wp2_with fail
      go_ret
      exact ⟨rfl, hb1d.out.trans (hb2.mono hb1d.out.size)⟩
theorem contract (H : Type) (enc : TypeId × Value → H) (W : World) (base : Nat) (args : Array Value) (ds gs : List (DataW H)) (before : List MemPlace)
    (hval : ∀ (j : Nat) t v, Try.f5.params[j]? = some t → args[j]? = some v → Value.okWide Try.prog W .any base t v)
    (hW : DataW.Whole enc Try.prog Try.f5.params.toList Rows.brachaTotalSpec.vars false W args.toList ds gs before) (hsz : (DataW.weightsEach Try.prog (Try.f5.params.toList ++ Rows.brachaTotalSpec.plain.varTypes Try.prog) (ds ++ gs)).all (· ≤ reachBytes) = true) :
    Calls Try.prog 5 args W fun e W' => ∃ v, e = .returned v ∧ Rows.brachaTotalSpec.post enc Try.prog Try.f5 false true false false W args v W' := by
  have hW' := hW
  obtain ⟨p, q, hA0, hV, rfl, hfz, hnd⟩ := hW
  have hA : DataW.TrodAll enc Try.prog W 0 (fun _ => true) true Try.f5.params.toList args.toList ds p := hA0
  rw [Try.params5] at hA hval hsz
  obtain ⟨v0, vs0, d0, ds0, p0, q0, hargs, rfl, rfl, h0, r0⟩ := trodAll_cons hA
  obtain ⟨v1, vs1, d1, ds1, p1, q1, rfl, rfl, rfl, h1, r1⟩ := trodAll_cons r0
  obtain ⟨v2, vs2, d2, ds2, p2, q2, rfl, rfl, rfl, h2, r2⟩ := trodAll_cons r1
  obtain ⟨rfl, rfl, rfl⟩ := trodAll_nil r2
  obtain rfl : args = #[v0, v1, v2] := by cases args; simp_all
  obtain ⟨rfl, rfl⟩ := trodVars_none hV
  obtain ⟨a1, len1, cap1, rfl⟩ := okWide_slice Try.underlying42 (hval 1 42 v1 rfl rfl)
  obtain ⟨a2, len2, cap2, rfl⟩ := okWide_slice Try.underlying43 (hval 2 43 v2 rfl rfl)
  have k0 := h0
  have lt0 : ∀ x ∈ p0, x.block < W.heap.size := by obtain ⟨m, hm⟩ := k0; exact DataW.trod_lt m _ _ _ hm
  obtain ⟨n0, rfl, -, -, z0⟩ := open_int Try.underlying3 (hval 0 3 v0 rfl rfl) h0
  have k1 := h1
  have lt1 : ∀ x ∈ p1, x.block < W.heap.size := by obtain ⟨m, hm⟩ := k1; exact DataW.trod_lt m _ _ _ hm
  obtain ⟨bs1, hrb1⟩ := bools_of_trod Try.underlying42 Try.underlying4 (by kernel_rfl) h1
  have k2 := h2
  have lt2 : ∀ x ∈ p2, x.block < W.heap.size := by obtain ⟨m, hm⟩ := k2; exact DataW.trod_lt m _ _ _ hm
  obtain ⟨xs2, hra2, hqa2⟩ := acts_of_trod Try.underlying43 Try.underlying94 (by kernel_rfl) rfl rfl rfl rfl rfl rfl rfl rfl rfl rfl Try.underlying35 (by kernel_rfl) rfl rfl rfl rfl rfl rfl rfl rfl rfl rfl rfl rfl rfl rfl rfl rfl rfl rfl rfl Try.underlying3 (by kernel_rfl) (by kernel_rfl) Try.underlying33 Try.underlying5 (by kernel_rfl) (by kernel_rfl) h2 (fun k hk => of_decide_eq_true (List.all_eq_true.1 hsz _ (DataW.weights_mem_each (j := 2) rfl rfl k hk)))
  clear hA0
  refine (walk W n0 (bounds_i64 z0) hrb1 hra2 hqa2).mono fun e W' ⟨he, bel⟩ => ?_
  subst he
  exact ⟨_, rfl, _, _, _, [], _, [], hW', trodAll_mk1 (shut_bool Try.underlying4 _), (trodAll_cons_mk (Below.trod laidOut (by kernel_rfl) (of_decide_eq_true (by kernel_rfl)) k0 bel lt0) (trodAll_cons_mk (Below.trod laidOut (by kernel_rfl) (of_decide_eq_true (by kernel_rfl)) k1 bel lt1) (trodAll_cons_mk (Below.trod laidOut (by kernel_rfl) (of_decide_eq_true (by kernel_rfl)) k2 bel lt2) trodAll_mk0))), rfl, bel.frame _, fun h => by cases h⟩
set_option maxRecDepth 100000 in
theorem lifted (os : Os) (started : os.Started) (H : Type) (enc : TypeId × Value → H) :
    ReturnsInHanded {} Try.checked os 5 .any (Rows.brachaTotalSpec.pre6 enc Try.prog Try.f5 Rows.brachaTotalRow.domain false) (Rows.brachaTotalSpec.post enc Try.prog Try.f5 false true false false) := by
  refine returnsInHanded_of_change_sized (C := Try.checked) own started (by kernel_rfl) Try.func5
    (ChangeSpec.witness6 (enc := enc) (C := Try.checked) false ⟨#[], #[.int .i64 0, .slice none 0 0, .slice none 0 0], []⟩ 8 (by kernel_rfl) (by kernel_rfl) (by kernel_rfl) (by kernel_rfl)) ?_
  intro W base args ds gs before hval hW _ hsz _
  exact contract H enc W base args ds gs before hval hW hsz
theorem said : Rows.BrachaTotalSaid :=
  OpenClaim.holds_of_wide 5 Try.f5 rfl rfl rfl rfl rfl rfl rfl ⟨rfl, rfl, rfl, rfl, rfl⟩ rfl rfl rfl rfl rfl (by kernel_rfl) Try.func5 (by kernel_rfl)
    (of_decide_eq_true (by kernel_rfl)) (by unfold Func.isWrapper; first | (rw [if_pos (by decide +kernel)]; kernel_rfl) | (rw [if_neg (by decide +kernel)]; exact ⟨rfl, rfl⟩))
    (fun os started H enc _ => lifted os started H enc)
#print axioms said
end Go.Proofs.Ytplijfgjdlghbaa.brachaTotal

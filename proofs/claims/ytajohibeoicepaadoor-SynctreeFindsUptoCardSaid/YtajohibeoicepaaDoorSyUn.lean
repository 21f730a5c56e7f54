/-
  The digits of a command, ranged over: digits, its closure, under.
-/
import Derived.RangeFuncNested
import Derived.RangeFuncBound
import Derived.RangeFuncCalls
import Derived.RangeFuncLeaves
import Derived.Shelf.Abstract
import Derived.Shelf.RegionOpen
import Derived.WalkKit
import Derived.OwnWalkIn
import Derived.TacticsInMore
import Derived.LoopNIn
import Derived.LoopIn
import Derived.Test.YtajohibeoicepaaDoorSyEn
namespace Sy
theorem digs_get {l : List UInt8} {k : Nat} (h : k < l.length) : (digs l).take (2 * k + 2) = (digs l).take (2 * k) ++ [UInt8.ofNat ((l.getD k 0).toNat / 16)] ++ [UInt8.ofNat ((l.getD k 0).toNat % 16)] := by
  induction l generalizing k with
  | nil => simp at h
  | cons b bs ih =>
    cases k with
    | zero => simp [digs]
    | succ k =>
      have := ih (k := k) (by simpa using h)
      simp only [digs, show 2 * (k + 1) = 2 * k + 1 + 1 by omega, List.take_succ_cons, this, List.cons_append, List.getD_cons_succ]
theorem pre_step {pre ps : List UInt8} {z : UInt8} (h : pre <+: ps) (hl : pre.length < ps.length) (hz : ps.getD pre.length 0 = z) : pre ++ [z] <+: ps := by
  obtain ⟨r, rfl⟩ := h
  cases r with
  | nil => simp at hl
  | cons a r =>
    simp at hz
    subst hz
    exact ⟨r, by simp⟩
theorem pre_off {pre ps D : List UInt8} {y z : UInt8} (h : pre <+: ps) (hl : pre.length < ps.length) (hz : ps.getD pre.length 0 = z) (hne : z ≠ y) (hD : pre ++ [y] <+: D) : false = ps.isPrefixOf D := by
  symm
  rw [Bool.eq_false_iff]
  intro hp
  rw [List.isPrefixOf_iff_prefix] at hp
  have h1 := (pre_step h hl hz).trans hp
  have h2 := List.prefix_of_prefix_length_le h1 hD (by simp)
  have h3 := h2.eq_of_length (by simp)
  simp at h3
  exact hne h3
theorem pre_all {ps D : List UInt8} {y : UInt8} (hD : ps ++ [y] <+: D) : true = ps.isPrefixOf D := by
  symm
  rw [List.isPrefixOf_iff_prefix]
  exact (List.prefix_append _ _).trans hD
theorem pre_end {ps D : List UInt8} (h : D <+: ps) : ps.isPrefixOf D = decide (D.length = ps.length) := by
  rw [Bool.eq_iff_iff, List.isPrefixOf_iff_prefix, decide_eq_true_iff]
  exact ⟨fun hp => by have := hp.length_le; have := h.length_le; omega, fun hl => by rw [h.eq_of_length hl]; exact List.prefix_refl _⟩
theorem uintF_pos (k : Nat) (n : BitVec 64) : 0 < (Wire.uintF (k + 1) n).length := by
  by_cases h : n.toNat < 128
  · rw [Wire.uintF_lt h]; simp
  · rw [Wire.uintF_ge h]; simp
theorem enc_pos (x : Cm) : 0 < (enc x).length := by
  have h : 0 < (Wire.int x.client).length := uintF_pos 9 _
  simp only [enc, bare, head, List.length_append]
  omega
end Sy
namespace Go.Pl
/-- What a round keeps: every block of cells but two. -/
structure KpU (p q : Nat) (W W' : World) : Prop where
  size : W.heap.size ≤ W'.heap.size
  same : ∀ (k : Nat) (o : Obj), W.heap[k]? = some o → o.isCells = true → k ≠ p → k ≠ q → W'.heap[k]? = some o
theorem KpU.trans {p q : Nat} {A B C : World} (h : KpU p q A B) (k : KpU p q B C) : KpU p q A C :=
  ⟨Nat.le_trans h.size k.size, fun i o h1 h2 h3 h4 => k.same i o (h.same i o h1 h2 h3 h4) h2 h3 h4⟩
theorem KpU.cell {p q : Nat} {W W' : World} (h : KpU p q W W') {a : Addr} {v : Value} (hc : W.cell? a = some v) (h1 : a.block ≠ p) (h2 : a.block ≠ q) : W'.cell? a = some v := by
  obtain ⟨o, ho, hk⟩ := cells_of_cell hc
  exact (World.cell?_of_block ((h.same _ _ ho hk h1 h2).trans ho.symm)).trans hc
theorem kpU_b {p q : Nat} (W : World) (l : Nat) (o o' : Obj) (h : W.heap[l]? = some o) (hc : o.isCells = false) : KpU p q W (W.putObj l o') := by
  have hg := grownBy_putObj' W l o'
  refine ⟨hg.size, fun k u hk hu _ _ => ?_⟩
  have hlt : k < W.heap.size := (Array.getElem?_eq_some_iff.1 hk).1
  rw [hg.block k hlt (fun e => by cases Option.some.inj e; rw [h] at hk; cases Option.some.inj hk; rw [hc] at hu; cases hu)]
  exact hk
theorem KpU.set_ {p q : Nat} (W : World) (a : Addr) (v : Value) (h : a.block = p ∨ a.block = q) : KpU p q W (W.setCell a v) :=
  ⟨by simp [World.setCell], fun k o hk _ h1 h2 => (Go.RowKit.Below.heap_setCell W a v k (by rcases h with h | h <;> omega)).trans hk⟩
theorem grown_of_below {w w' : World} (h : Go.RowKit.Below w.heap.size w w') : w.grownBy w' none := ⟨h.os, h.tape, h.output, h.size, fun k hk _ => h.block k hk⟩
end Go.Pl
namespace Go.Proofs.YtajohibeoicepaaDoor
open Go.RowKit Go.Pl Go.Shelf
attribute [local go_sem] Oper.semAt_some
/-- The cells of a command. -/
abbrev cma (x : Sy.Cm) (A : Option Addr) (n c : Nat) (C : Option Addr) (m d : Nat) : Array Value := #[.int .i64 x.client, .int .i64 x.seq, .int .i64 x.kind, .slice A n c, .int .i64 x.replica, .slice C m d]
set_option maxRecDepth 100000 in
theorem digits_any (x : Sy.Cm) (w : World) {A C : Option Addr} {n c m d : Nat} :
    Calls Tryd.prog 47 #[.agg (cma x A n c C m d)] w fun e w' => e = .returned (.func (.func 58) #[] #[.pointer (some ⟨w.heap.size, 0, none⟩)]) ∧ w' = w.alloc (.cells (cma x A n c C m d) 39) := by
  go_enter Tryd.func47, Tryd.ntmps47
  go_wp2_with fail
  go_ret
  exact ⟨rfl, rfl⟩
theorem and15_all : ∀ b : Fin 256, bits .and .u8 ((b.val : Nat) : Int) 15 = ((UInt8.ofNat (b.val % 16)).toNat : Int) := by decide +kernel
theorem and15 (v : UInt8) : bits .and .u8 (v.toNat : Int) 15 = ((UInt8.ofNat (v.toNat % 16)).toNat : Int) := and15_all ⟨v.toNat, v.toNat_lt⟩
set_option maxRecDepth 100000 in
theorem digs1_in (x : Sy.Cm) {A C : Option Addr} {n c m d : Nat} (l Bn p q : Nat) (J Jx : List UInt8 → World → Prop) (W : World)
    (hJ : AbidesFrom W.heap.size J)
    (hY : ∀ pre y W1, J pre W1 → pre.length < (Sy.digs (Sy.enc x)).length → YieldAt Fence.wide 2 Tryd.prog l #[.int .u8 (y.toNat : Int)] W1 fun e W' =>
      (e = .returned (.bool true) ∧ J (pre ++ [y]) W' ∧ KpU p q W1 W') ∨ (e = .returned (.bool false) ∧ Jx (pre ++ [y]) W'))
    (hB : Blk W Bn 39 (cma x A n c C m d)) (hx : RdE lWt W (fun i => i < W.heap.size) A n c x.writes) (ht : Rd W (fun i => i < W.heap.size) C m d x.tag) (hz : Sy.csz x ≤ 30000000) (hp : p < W.heap.size) (hq : q < W.heap.size) (h0 : J [] W) :
    CallsIn Fence.wide 3 Tryd.prog 58 #[.func (.yield l) #[] #[], .pointer (some ⟨Bn, 0, none⟩)] W fun e W' => (∃ v, e = .returned v) ∧
      ((∃ ys, ys = Sy.digs (Sy.enc x) ∧ J ys W') ∨ (∃ pre, pre <+: Sy.digs (Sy.enc x) ∧ Jx pre W')) := by
  refine callsIn_of_wp Tryd.func58 rfl trivial ?_ rfl
  simp only [Tryd.ntmps58, List.size_toArray, List.length_cons, List.length_nil, Nat.reduceAdd, Nat.reduceSub, Array.replicate_succ, Array.replicate_zero, List.push_toArray, List.append_toArray, List.nil_append, List.cons_append]
  have d0 : W.cell? ⟨Bn, 0, none⟩ = some (.int .i64 x.client) := (hB.cell 0).trans rfl
  have d1 : W.cell? ⟨Bn, 1, none⟩ = some (.int .i64 x.seq) := (hB.cell 1).trans rfl
  have d2 : W.cell? ⟨Bn, 2, none⟩ = some (.int .i64 x.kind) := (hB.cell 2).trans rfl
  have d3 : W.cell? ⟨Bn, 3, none⟩ = some (.slice A n c) := (hB.cell 3).trans rfl
  have d4 : W.cell? ⟨Bn, 4, none⟩ = some (.int .i64 x.replica) := (hB.cell 4).trans rfl
  have d5 : W.cell? ⟨Bn, 5, none⟩ = some (.slice C m d) := (hB.cell 5).trans rfl
  have hes := Sy.length_enc x
  have hep := Sy.enc_pos x
  have hYd := Lib.hid hY
  clear hY
  gi_wp2_with (refine ⟨trivial, ?_⟩; gi_at_call 35; refine (callsIn_wide.2 (cenc_any x W hx ht hz)).mono ?_)
  rintro e w1 ⟨D, k0, rfl, hr, hb⟩
  have h1 := hJ [] W w1 none h0 (grown_of_below hb) (fun r e => by cases e)
  obtain ⟨es, hE⟩ : ∃ es, Sy.enc x = es := ⟨_, rfl⟩
  rw [hE] at hr hes hep hYd ⊢
  have hEd := Lib.hid hE
  have hN : es.length ≤ 30000000 := by omega
  obtain ⟨b, o, rfl, hbW, hbl, hcell⟩ := hr.at_ hep
  have hpb : p ≠ b := by omega
  have hqb : q ≠ b := by omega
  have hcd := Lib.hid hcell
  have hpqd := Lib.hid (And.intro hpb hqb)
  have hNd := Lib.hid hN
  clear d0 d1 d2 d3 d4 d5 hcell hpb hqb hr hb hes hE hep hJ h0 hx ht hz hB
  gi_wp2
  gi_loopw [8] (fun i wr => ∃ k : Nat, k ≤ es.length ∧ i = .int .i64 k ∧ J ((Sy.digs es).take (2 * k)) wr ∧ ∀ i, i < es.length → wr.cell? ⟨b, o + i, none⟩ = some (.int .u8 ((es.getD i 0).toNat : Int)))
    (fun i _ => es.length - (intOf i).toNat)
  case atStart => exact ⟨0, Nat.zero_le _, rfl, by simpa using h1, hcd.out⟩
  case round =>
    obtain ⟨k, hk, rfl, hJs, hcr⟩ := hrel
    by_cases hlt : k < es.length
    · obtain ⟨v, hv⟩ : ∃ v, es.getD k 0 = v := ⟨_, rfl⟩
      have g : wr.cell? ⟨b, o + k, none⟩ = some (.int .u8 (v.toNat : Int)) := hv ▸ hcr k hlt
      have ev : ((UInt8.ofNat (v.toNat / 16)).toNat : Int) = (v.toNat : Int) / 16 := by have := v.toNat_lt; rw [UInt8.toNat_ofNat']; omega
      obtain ⟨fn, tmps, assign, body, hy, hR⟩ := hYd.out _ (UInt8.ofNat (v.toNat / 16)) wr hJs (by rw [List.length_take, Sy.length_digs]; omega)
      rw [ev] at hy
      have hvd := Lib.hid hv
      have hcrd := Lib.hid hcr
      clear hv ev hcr
      gi_wp2
      refine hR.mono ?_
      rintro e w2 (⟨rfl, hJ2, hk2⟩ | ⟨rfl, hJx2⟩)
      · have hl2 : ((Sy.digs es).take (2 * k) ++ [UInt8.ofNat (v.toNat / 16)]).length < (Sy.digs es).length := by rw [List.length_append, List.length_take, Sy.length_digs]; simp; omega
        obtain ⟨fn2, tmps2, assign2, body2, hy2, hR2⟩ := hYd.out _ (UInt8.ofNat (v.toNat % 16)) w2 hJ2 hl2
        rw [← and15] at hy2
        clear hl2 hy hR
        gi_wp2
        refine hR2.mono ?_
        rintro e w3 (⟨rfl, hJ3, hk3⟩ | ⟨rfl, hJx3⟩)
        · gi_wp2
          go_roundw
          case rel =>
            refine ⟨k + 1, by omega, by go_num, ?_, fun i hi => (hk2.trans hk3).cell (hcrd.out i hi) (fun e => hpqd.out.1 e.symm) (fun e => hpqd.out.2 e.symm)⟩
            rw [show 2 * (k + 1) = 2 * k + 2 by omega, Sy.digs_get hlt, hvd.out]
            exact hJ3
          case measure => simp [intOf]; omega
        · gi_wp2
          refine bodyPost_ret (results_none rfl _ _ _) rfl ?_
          refine ⟨⟨_, rfl⟩, .inr ⟨_, ?_, hJx3⟩⟩
          rw [← hvd.out, ← Sy.digs_get hlt, hEd.out]
          exact List.take_prefix _ _
      · gi_wp2
        all_goals refine ⟨fun _ h => (by cases h), ?_⟩
        all_goals gi_wp2
        all_goals refine bodyPost_ret (results_none rfl _ _ _) rfl ?_
        all_goals refine ⟨⟨_, rfl⟩, .inr ⟨_, ?_, hJx2⟩⟩
        all_goals rw [← hvd.out, hEd.out]
        all_goals exact (List.prefix_append _ _).trans (Sy.digs_get hlt ▸ List.take_prefix (2 * k + 2) (Sy.digs es))
    · obtain rfl : k = es.length := by omega
      gi_wp2
      go_end0
      refine ⟨⟨_, rfl⟩, .inl ⟨_, ?_, hJs⟩⟩
      rw [hEd.out, List.take_of_length_le]
      rw [Sy.length_digs]; omega
set_option maxRecDepth 100000 in
theorem under_any (x : Sy.Cm) (w : World) {A C P : Option Addr} {n c m d pn pc : Nat} {ps : List UInt8} (hx : RdE lWt w (fun i => i < w.heap.size) A n c x.writes) (ht : Rd w (fun i => i < w.heap.size) C m d x.tag) (hz : Sy.csz x ≤ 30000000)
    (hp : Rd w (fun i => i < w.heap.size) P pn pc ps) :
    Calls Tryd.prog 32 #[.agg (cma x A n c C m d), .slice P pn pc] w fun e w' => e = .returned (.bool (ps.isPrefixOf (Sy.digs (Sy.enc x)))) ∧ Below w.heap.size w w' := by
  refine (callsIn_wide (n := 4)).1 ?_
  refine callsIn_of_wp_marks Tryd.func32 rfl trivial ?_ rfl
  simp only [Tryd.ntmps32, List.size_toArray, List.length_cons, List.length_nil, Nat.reduceAdd, Nat.reduceSub, Array.replicate_succ, Array.replicate_zero, List.push_toArray, List.append_toArray, List.nil_append, List.cons_append]
  gi_wp2_with (refine ⟨trivial, ?_⟩; gi_at_call 47; refine (callsIn_wide.2 (digits_any x _)).mono ?_; rintro e w' ⟨rfl, rfl⟩)
  obtain ⟨w5, hw5⟩ : ∃ w5, ((((w.alloc (.cells (cma x A n c C m d) 39)).alloc (.cells #[.slice P pn pc] 23)).alloc (.cells #[.bool false] 4)).alloc (.cells #[.int .i64 0] 3)).alloc (.cells (cma x A n c C m d) 39) = w5 := ⟨_, rfl⟩
  obtain ⟨s, hs⟩ : ∃ s, w.heap.size = s := ⟨_, rfl⟩
  have hs5 : w5.heap.size = s + 5 := by rw [← hw5, ← hs]; simp only [World.alloc, Array.size_push]
  have hB0 : Below w.heap.size w w5 := by rw [← hw5]; exact ((((Below.refl _ w).alloc (Nat.le_refl _) _).alloc (by simp) _ |>.alloc (by simp; omega) _).alloc (by simp; omega) _).alloc (by simp; omega) _
  have k1 : Blk w5 (s + 1) 23 #[.slice P pn pc] := by rw [← hw5, ← hs]; exact (((Blk.new' (by simp)).alloc _).alloc _).alloc _
  have k2 : Blk w5 (s + 1 + 1) 4 #[.bool false] := by rw [← hw5, ← hs]; exact ((Blk.new' (by simp)).alloc _).alloc _
  have k3 : Blk w5 (s + 1 + 1 + 1) 3 #[.int .i64 0] := by rw [← hw5, ← hs]; exact (Blk.new' (by simp)).alloc _
  have k4 : Blk w5 (s + 1 + 1 + 1 + 1) 39 (cma x A n c C m d) := by rw [← hw5, ← hs]; exact Blk.new' (by simp)
  rw [hw5]
  rw [hs] at hx ht hp hB0 ⊢
  have hx5 := hx.fr (Fr.of_below (F := fun _ => False) (hs.symm ▸ hB0)) (fun _ _ h => h)
  have ht5 := ht.fr (Fr.of_below (F := fun _ => False) (hs.symm ▸ hB0)) (fun _ _ h => h)
  have hpn := hp.len
  subst hpn
  have hpmd : Hid (ps.length ≤ 9223372036854775807) := Nat.le_trans hp.le hp.max
  clear hw5
  obtain ⟨D, hD⟩ : ∃ D, Sy.digs (Sy.enc x) = D := ⟨_, rfl⟩
  refine wpIn_rangeFunc_ownF rfl (by decide) (gf := 58) (lb := #[.pointer (some ⟨s + 1 + 1 + 1 + 1, 0, none⟩)]) rfl trivial (enters_of Tryd.func58 (by kernel_rfl) rfl)
    (encs := fun y : UInt8 => #[Value.int .u8 (y.toNat : Int)]) (Kp := KpU (s + 1 + 1) (s + 1 + 1 + 1)) (S := fun ys => ys = D) (Sp := fun pre => pre <+: D) (N := D.length) (w0 := w5)
    (fun l J Jx W hW hJ hJx hY h0 => by
      have hf := Fr.of_below (F := fun _ => False) hW
      subst hD
      exact digs1_in x l (s + 1 + 1 + 1 + 1) (s + 1 + 1) (s + 1 + 1 + 1) J Jx W hJ hY (k4.fr hf (fun h => h)) ((hx5.fr hf (fun _ _ h => h)).mono (fun i hi _ => hi)) ((ht5.fr hf (fun _ _ h => h)).mono (fun i hi _ => hi)) hz (by have := hW.size; omega) (by have := hW.size; omega) h0)
    (fun h k => h.trans k) (fun W l o o' _ h hc _ => kpU_b W l o o' h hc) (Below.refl _ _) (fun _ => rfl)
    (fun pre W => (pre <+: ps ∧ W.cell? ⟨s + 1, 0, none⟩ = some (.slice P ps.length pc) ∧ W.cell? ⟨s + 1 + 1, 0, none⟩ = some (.bool false) ∧ W.frozen? ⟨s + 1 + 1, 0, none⟩ = false ∧ W.cell? ⟨s + 1 + 1 + 1, 0, none⟩ = some (.int .i64 (pre.length : Int)) ∧ W.frozen? ⟨s + 1 + 1 + 1, 0, none⟩ = false) ∧ Below s w W)
    (fun c pre W => (c = .ret ∧ ∃ r : Bool, (pre <+: D → r = ps.isPrefixOf D) ∧ W.cell? ⟨s + 1 + 1, 0, none⟩ = some (.bool r)) ∧ Below s w W)
    (OwnFrom.and (Own.from (fun t A B row hs hg hr => ⟨hs.1, cell_kept hs.2.1 hg hr, cell_kept hs.2.2.1 hg hr, (frozen_kept hs.2.2.1 hg hr).trans hs.2.2.2.1, cell_kept hs.2.2.2.2.1 hg hr, (frozen_kept hs.2.2.2.2.1 hg hr).trans hs.2.2.2.2.2⟩) _) (ownFrom_below (Nat.le_of_eq hs.symm) (by omega)))
    (fun c => OwnFrom.and (Own.from (fun t A B row hs hg hr => ⟨hs.1, hs.2.elim fun r h => ⟨r, h.1, cell_kept h.2 hg hr⟩⟩) _) (ownFrom_below (Nat.le_of_eq hs.symm) (by omega)))
    ⟨⟨List.nil_prefix, (k1.cell 0).trans rfl, (k2.cell 0).trans rfl, k2.frozen 0, (k3.cell 0).trans rfl, k3.frozen 0⟩, hB0⟩
    (fun y => { tmps := #[.agg (cma x A n c C m d), .slice P ps.length pc, .pointer (some ⟨s, 0, none⟩), .pointer (some ⟨s + 1, 0, none⟩), .pointer (some ⟨s + 1 + 1, 0, none⟩), .pointer (some ⟨s + 1 + 1 + 1, 0, none⟩), .int .u8 (y.toNat : Int), .agg (cma x A n c C m d), .func (.func 58) #[] #[.pointer (some ⟨s + 1 + 1 + 1 + 1, 0, none⟩)], .int .u8 (y.toNat : Int), undef, undef, undef, undef, undef, undef, undef, undef, undef, undef, undef, undef, undef, undef, undef, undef], defers := [] }) ?assign ?body ?done ?stop
  case assign =>
    intro l y W K hK
    gi_wp2
    exact hK
  case body =>
    rintro l pre y W ⟨⟨hp1, c1, c2, f2, c3, f3⟩, hB⟩ hlen
    by_cases hq : pre.length = ps.length
    · have hq' : (pre.length : Int) = (ps.length : Int) := by omega
      have hpe := Lib.hid (hp1.eq_of_length hq)
      clear hq
      gi_wp2
      refine ⟨KeepsOthers.setCell _ _ _, ⟨rfl, true, fun h => Sy.pre_all (hpe.out ▸ h), World.cell?_setCell_same' _ _ _ (by rw [c2]; rfl)⟩, hB.setCell (p := ⟨s + 1 + 1, 0, none⟩) (by simp; omega) _⟩
    · have hlt : pre.length < ps.length := by have := hp1.length_le; omega
      obtain ⟨bp, op, rfl, hbs, -, hcell⟩ := hp.at_ (by omega)
      have g := (hB.cell (p := ⟨bp, op + pre.length, none⟩) hbs).trans (hcell _ hlt)
      obtain ⟨z, hz0⟩ : ∃ z, ps.getD pre.length 0 = z := ⟨_, rfl⟩
      rw [hz0] at g
      have hz0d := Lib.hid hz0
      have hltd := Lib.hid hlt
      have hpm := hpmd.out
      clear hz0 hcell
      by_cases hzy : z = y
      · subst hzy
        gi_wp2
        refine ⟨KeepsOthers.setCell _ _ _, KpU.set_ _ _ _ (.inr rfl), ⟨Sy.pre_step hp1 hltd.out hz0d.out, ?_, ?_, ?_, ?_, ?_⟩, hB.setCell (p := ⟨s + 1 + 1 + 1, 0, none⟩) (by simp; omega) _⟩
        · exact (World.cell?_setCell_other _ _ _ _ (by simp)).trans c1
        · exact (World.cell?_setCell_other _ _ _ _ (by simp)).trans c2
        · rw [World.frozen?_setCell]; exact f2
        · rw [List.length_append]; exact World.cell?_setCell_same' _ _ _ (by rw [c3]; rfl)
        · rw [World.frozen?_setCell]; exact f3
      · have hne : ((z.toNat : Int) != (y.toNat : Int)) = true := by
          rw [bne_iff_ne]
          intro h
          exact hzy (UInt8.toNat_inj.1 (by omega))
        gi_wp2
        · refine ⟨KeepsOthers.setCell _ _ _, ⟨rfl, false, fun h => Sy.pre_off hp1 hltd.out hz0d.out hzy h, World.cell?_setCell_same' _ _ _ (by rw [c2]; rfl)⟩, hB.setCell (p := ⟨s + 1 + 1, 0, none⟩) (by simp; omega) _⟩
  case done =>
    rintro E ys W hE rfl ⟨⟨hp1, c1, c2, f2, c3, f3⟩, hB⟩ hK
    gi_wp2
    have hK' := (KeepsOthers.setCell W ⟨s + 1 + 1, 0, none⟩ (.bool ((ys.length : Int) == (ps.length : Int)))).same E _ hK rfl
    refine ⟨by simp, .inl ⟨_, _, rfl, run_takeDeferred hK', ?_⟩⟩
    have hc5 := cell_kept (World.cell?_setCell_same' W ⟨s + 1 + 1, 0, none⟩ (.bool ((ys.length : Int) == (ps.length : Int))) (by rw [c2]; rfl)) (grownBy_putObj' _ E (.deferred none)) (fun r e => by cases e; exact ⟨_, hK', rfl⟩)
    refine ⟨.bool ((ys.length : Int) == (ps.length : Int)), ?_, ?_, hs.symm ▸ (hB.setCell (p := ⟨s + 1 + 1, 0, none⟩) (by simp; omega) _).trans (belowK_b (w := w5) (by omega) _ E _ _ (by omega) hK' rfl rfl)⟩
    · simp [results, Tryd.f32, go_sem, hc5]
    · rw [hD, Sy.pre_end hp1]
      congr 2
      rw [Bool.eq_iff_iff, beq_iff_eq, decide_eq_true_iff]
      omega
  case stop =>
    rintro E c pre W hE hpre ⟨⟨rfl, r, hr, hcr⟩, hB⟩ hK
    gi_wp2
    refine ⟨by simp, .inl ⟨_, _, rfl, run_takeDeferred hK, ?_⟩⟩
    have hc5 := cell_kept hcr (grownBy_putObj' _ E (.deferred none)) (fun r e => by cases e; exact ⟨_, hK, rfl⟩)
    refine ⟨.bool r, ?_, by rw [hr hpre, hD], hs.symm ▸ hB.trans (belowK_b (w := w5) (by omega) W E _ _ (by omega) hK rfl rfl)⟩
    simp [results, Tryd.f32, go_sem, hc5]
end Go.Proofs.YtajohibeoicepaaDoor

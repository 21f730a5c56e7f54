/-
  The reference's Valid, walked; a part of a block loaded under a guard.
-/
import Derived.Test.YtajohibeoicepaaDoorSySm
import Derived.Test.YtajohibeoicepaaDoorOrdV
namespace Go.Pl
open Go.RowKit
section
variable {P : Program} {ops : Array Oper} {rest : List Oper} {o : Oper} {a : Act} {C : World → Prop} {R : Act → Prop}
theorem wpq_load_partw (hgd : Region.wanted o (yielded ops a.tmps) = true) (ty : TypeId) (x : Operand) (hop : o.op = .load ty x) (g k : Nat) (hx : a.eval x = .pointer (some ⟨g, k, none⟩)) (t : TypeId) (old : Array Value)
    (hg : ∀ w, C w → Blk w g t old) (cs : Array Value) (hp : old.extract k (k + cs.size) = cs) (d : TypeDesc) (hu : P.underlying ty = some d) (hd : d.isRow = true) (hi : (P.info? ty).map (·.size) = some cs.size)
    (h : wpQuiet P ops C R rest (a.put o.dst (.agg cs))) : wpQuiet P ops C R (o :: rest) a :=
  BigFrame.wpQuiet_want hgd fun K hK => ⟨.agg cs, fun w hw => by
    have hl := run_loadVar_mid (P := P) w g k ty cs.toList d ((hg w hw).range k cs hp) hu hd (by simpa using hi)
    unfold Oper.quietAt execOp
    simp only [hop, hx, Instr.loadAt, Instr.sureAddr, Sem.run_bind, Sem.run_pure, Result.andThen_ok, hl]
    exact ⟨rfl, rfl⟩, hK _ h⟩
/-- A struct somewhere in memory, loaded. -/
theorem wpq_load_midw (hgd : Region.wanted o (yielded ops a.tmps) = true) (ty : TypeId) (x : Operand) (hop : o.op = .load ty x) (g k : Nat) (hx : a.eval x = .pointer (some ⟨g, k, none⟩)) (cs : List Value)
    (hg : ∀ w, C w → w.rangeAt g k cs) (d : TypeDesc) (hu : P.underlying ty = some d) (hd : d.isRow = true) (hi : (P.info? ty).map (·.size) = some cs.length)
    (h : wpQuiet P ops C R rest (a.put o.dst (.agg cs.toArray))) : wpQuiet P ops C R (o :: rest) a :=
  BigFrame.wpQuiet_want hgd fun K hK => ⟨.agg cs.toArray, fun w hw => by
    have hl := run_loadVar_mid (P := P) w g k ty cs d (hg w hw) hu hd hi
    unfold Oper.quietAt execOp
    simp only [hop, hx, Instr.loadAt, Instr.sureAddr, Sem.run_bind, Sem.run_pure, Result.andThen_ok, hl]
    exact ⟨rfl, rfl⟩, hK _ h⟩
end
end Go.Pl
namespace Go.Proofs.YtajohibeoicepaaDoor
open Go.RowKit Go.Pl
set_option maxRecDepth 100000 in
theorem rvalid_any (d : Sy.Dg) (w : World) {S1 S2 : Nat → Prop} {P A : Option Addr} {pn pc n c : Nat} (hp : Rd w S1 P pn pc d.pre) (hs : Rd w S2 A n c d.sum) :
    Calls Tryd.prog 22 #[.agg #[.slice P pn pc, .slice A n c, .int .i64 d.count]] w fun e w' => e = .returned (.bool (Sy.valid d)) ∧ Below w.heap.size w w' := by
  have hnl := Lib.hid hs.len
  have hpm : pn ≤ 9223372036854775807 := Nat.le_trans hp.le hp.max
  have hpl := Lib.hid hp.len
  have hpd := Lib.hid hp
  clear hp hs
  obtain ⟨z, hz0⟩ : ∃ z, d.count = z := ⟨_, rfl⟩
  rw [hz0]
  have hzd := Lib.hid hz0
  clear hz0
  go_enter Tryd.func22, Tryd.ntmps22
  go_wp2_with fail
  obtain ⟨w1, hw1⟩ : ∃ w1, w.alloc (.cells #[.slice P pn pc, .slice A n c, .int .i64 z] 30) = w1 := ⟨_, rfl⟩
  have hX : Blk w1 w.heap.size 30 #[.slice P pn pc, .slice A n c, .int .i64 z] := by rw [← hw1]; exact Blk.new' rfl
  have hb1 : Hid (Below w.heap.size w w1) := by show Below _ _ _; rw [← hw1]; exact (Below.refl _ w).alloc (Nat.le_refl _) _
  rw [hw1]
  have hXd := Lib.hid hX
  have hp1 : Hid (Rd w1 S1 P pn pc d.pre) := hpd.out.keep hb1.out.size (fun q hq _ => hb1.out.cell hq)
  clear hX hw1
  go_loopw [3] (fun t wr => ∃ k : Nat, k ≤ pn ∧ t = .int .i64 k ∧ (∀ b ∈ d.pre.take k, b.toNat ≤ 15) ∧ wr = w1) (fun t _ => pn - (intOf t).toNat)
  case atStart => exact ⟨0, Nat.zero_le _, rfl, by simp, rfl⟩
  case round =>
    obtain ⟨k, hk, rfl, hall, rfl⟩ := hrel
    have c0 : wr.cell? ⟨w.heap.size, 0, none⟩ = some (.slice P pn pc) := (hXd.out.cell 0).trans rfl
    by_cases hlt : k < pn
    · obtain ⟨b, o, rfl, -, hbl, hcell⟩ := hp1.out.at_ (by omega)
      obtain ⟨v, hv⟩ : ∃ v, d.pre.getD k 0 = v := ⟨_, rfl⟩
      have g : wr.cell? ⟨b, o + k, none⟩ = some (.int .u8 (v.toNat : Int)) := hv ▸ hcell k hlt
      have hvd := Lib.hid hv
      have halld := Lib.hid hall
      clear hv hcell hbl hall
      by_cases h15 : v.toNat ≤ 15
      · have h15' : ¬ (15 : Int) < (v.toNat : Int) := by omega
        go_wp2_with fail
        go_roundw
        case rel =>
          refine ⟨k + 1, by omega, by go_num, fun y hy => ?_, trivial⟩
          have hkl : k < d.pre.length := by have := hpl.out; omega
          rw [List.take_succ_eq_append_getElem hkl] at hy
          rcases List.mem_append.1 hy with hy | hy
          · exact halld.out y hy
          · have : y = v := by
              rw [List.mem_singleton.1 hy, ← hvd.out]
              simp [hkl]
            rw [this]; exact h15
        case measure => simp [intOf]; omega
      · have h15' : (15 : Int) < (v.toNat : Int) := by omega
        have hkl := Lib.hid hlt
        clear hlt
        go_wp2_with fail
        go_returns
        refine ⟨?_, hb1.out⟩
        have hkp : k < d.pre.length := by have := hpl.out; have := hkl.out; omega
        have hm : v ∈ d.pre := by
          rw [← hvd.out]
          simp [hkp]
        have : Sy.valid d = false := by
          unfold Sy.valid
          have h : d.pre.all (fun b => decide (b.toNat ≤ 15)) = false := by
            rw [Bool.eq_false_iff]
            intro h
            have := of_decide_eq_true (List.all_eq_true.1 h v hm)
            omega
          rw [h]; rfl
        rw [this]; rfl
    · have hkn := Lib.hid (show k = pn by omega)
      have halld := Lib.hid hall
      have c1 : wr.cell? ⟨w.heap.size, 1, none⟩ = some (.slice A n c) := (hXd.out.cell 1).trans rfl
      have c2 : wr.cell? ⟨w.heap.size, 2, none⟩ = some (.int .i64 z) := (hXd.out.cell 2).trans rfl
      have hv : Hid (Sy.valid d = (decide (n = 32) && decide (0 ≤ z))) := by
        show _ = _
        unfold Sy.valid
        have h : d.pre.all (fun b => decide (b.toNat ≤ 15)) = true := List.all_eq_true.2 fun y hy => decide_eq_true (halld.out y (by rw [hkn.out, hpl.out, List.take_length]; exact hy))
        rw [h, hnl.out, hzd.out]; rfl
      clear hall
      by_cases h32 : n = 32
      · subst h32
        by_cases hz0 : 0 ≤ z
        · have hz1 : decide (0 ≤ z) = true := decide_eq_true hz0
          go_wp2_with fail
          go_returns
          exact ⟨by rw [hv.out, hz1]; rfl, hb1.out⟩
        · have hz1 : decide (0 ≤ z) = false := decide_eq_false hz0
          go_wp2_with fail
          go_returns
          exact ⟨by rw [hv.out, hz1]; rfl, hb1.out⟩
      · have h32' : ((n : Int) == 32) = false := gneZ (by omega)
        go_wp2_with fail
        go_returns
        exact ⟨by rw [hv.out, decide_eq_false h32]; rfl, hb1.out⟩
end Go.Proofs.YtajohibeoicepaaDoor

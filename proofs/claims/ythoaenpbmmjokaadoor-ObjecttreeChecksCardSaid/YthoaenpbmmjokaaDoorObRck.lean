/-
  The reference's Check, walked.
-/
import Derived.Test.YthoaenpbmmjokaaDoorObFol
namespace Go.Pl
open Go.RowKit
/-- An item loaded, under a guard that says yes, where a region is walked quietly. -/
theorem wpq_load_four {P : Program} {ops : Array Oper} {rest : List Oper} {o : Oper} {a : Act} {C : World → Prop} {R : Act → Prop} (hgd : Region.wanted o (yielded ops a.tmps) = true) (ty : TypeId) (x : Operand) (hop : o.op = .load ty x) (g : Nat) (hx : a.eval x = .pointer (some ⟨g, 0, none⟩)) (t : TypeId) (cs : Array Value)
    (hg : ∀ w, C w → Blk w g t cs) (d : TypeDesc) (hu : P.underlying ty = some d) (hd : d.isRow = true) (hi : (P.info? ty).map (·.size) = some cs.size)
    (h : wpQuiet P ops C R rest (a.put o.dst (.agg cs))) : wpQuiet P ops C R (o :: rest) a :=
  BigFrame.wpQuiet_want hgd fun K hK => ⟨.agg cs, fun w hw => by
    have hl := run_loadVar_mid (P := P) w g 0 ty cs.toList d ((hg w hw).range 0 cs (by simp)) hu hd (by simpa using hi)
    unfold Oper.quietAt execOp
    simp only [hop, hx, Instr.loadAt, Instr.sureAddr, Sem.run_bind, Sem.run_pure, Result.andThen_ok, hl]
    exact ⟨rfl, rfl⟩, hK _ h⟩
end Go.Pl
namespace Go.Proofs.YthoaenpbmmjokaaDoor
open Go.RowKit Go.Pl
set_option maxRecDepth 100000 in
set_option maxHeartbeats 1000000 in
theorem refcheck_any (w : World) {x : Ob.It} {A B W : Option Addr} {n c m d wn wc : Nat} {root : List UInt8} (hW : Rd w (fun _ => True) W wn wc root) (hA : Rd w (fun _ => True) A n c x.content) (hB : RdS w (fun _ => True) B m d x.path) (hk : x.key.length ≤ 100000) (hc : x.content.length ≤ 1000000) (hm : x.path.length ≤ 1000) (hp : ∀ p ∈ x.path, p.length ≤ 1000000) :
    Calls Tryd.prog 30 #[.slice W wn wc, .agg #[.string ⟨x.key.toArray⟩, .bool x.present, .slice A n c, .slice B m d]] w fun e w' => e = .returned (.bool (Ob.checkP root x)) ∧ Below w.heap.size w w' := by
  obtain ⟨w1, hw1⟩ : ∃ v, w.alloc (.cells #[.string ⟨x.key.toArray⟩, .bool x.present, .slice A n c, .slice B m d] 26) = v := ⟨_, rfl⟩
  have hG1 : Blk w1 w.heap.size 26 #[.string ⟨x.key.toArray⟩, .bool x.present, .slice A n c, .slice B m d] := by rw [← hw1]; exact Blk.new' rfl
  have hb1 : Below w.heap.size w w1 := by rw [← hw1]; exact (Below.refl _ _).alloc (Nat.le_refl _) _
  have hf1 : Fr (fun _ => False) w w1 := Fr.of_below hb1
  have hW1 := Lib.hid (hW.fr hf1 (fun _ _ h => h))
  have hA1 := Lib.hid (hA.fr hf1 (fun _ _ h => h))
  have hB1 := Lib.hid (hB.fr hf1 (fun _ _ h => h))
  have hb1d := Lib.hid hb1
  have hw1d := Lib.hid hw1
  have g0 := (hG1.cell 0).trans rfl
  have g1 := (hG1.cell 1).trans rfl
  have g2 := (hG1.cell 2).trans rfl
  have g3 := (hG1.cell 3).trans rfl
  have hx1 : Hid (x.key.length ≤ 100000 ∧ x.content.length ≤ 1000000 ∧ x.path.length ≤ 1000 ∧ ∀ p ∈ x.path, p.length ≤ 1000000) := ⟨hk, hc, hm, hp⟩
  clear hW hA hB hk hc hm hp hw1 hG1 hb1 hf1
  go_enter Tryd.func30, Tryd.ntmps30
  go_upto_region 1 with fail
  rw [hw1d.out]
  go_wp2_with fail
  refine (follow_any w1 hA1.out hB1.out hx1.out.1 hx1.out.2.1 hx1.out.2.2.1 hx1.out.2.2.2).mono ?_
  rintro e w2 ⟨hb2, hpost⟩
  have hb2d : Hid (Below w.heap.size w w2) := hb1d.out.trans (hb2.mono hb1d.out.size)
  have hW2 := (hW1.out.fr (Fr.of_below (F := fun _ => False) hb2) (fun _ _ h => h))
  clear hb2 g0 g1 g2 g3
  cases hf : Ob.followP x with
  | none =>
    rw [hf] at hpost
    obtain rfl : e = .returned (.tuple #[.slice none 0 0, .slice none 0 0, .bool false]) := hpost
    have hF : Hid (Ob.checkP root x = false) := Ob.check_none hf
    clear hf hW2
    go_wp2_with fail
    go_ret
    exact ⟨by rw [hF.out]; rfl, hb2d.out⟩
  | some y =>
    obtain ⟨dg, tk⟩ := y
    rw [hf] at hpost
    obtain ⟨A5, m5, c5, B5, k, e5, rfl, hr5, hs5⟩ : ∃ A m c B k e', e = .returned (.tuple #[.slice A m c, .slice B k e', .bool true]) ∧ Rd w2 (fun _ => True) A m c dg ∧ RdS w2 (fun _ => True) B k e' tk := hpost
    have hF : Hid (Ob.checkP root x = (dg == root)) := Ob.check_some hf
    have q1 : Bytes w2 w2.heap.size (.slice A5 m5 c5) dg := hr5.bytes (fun i hi _ => hi)
    have q2 : Bytes w2 w2.heap.size (.slice W wn wc) root := hW2.bytes (fun i hi _ => hi)
    have e1 : ((⟨dg.toArray⟩ : ByteArray).toList == (⟨root.toArray⟩ : ByteArray).toList) = (dg == root) := by rw [Ob.toList_bytes, Ob.toList_bytes]
    obtain ⟨R, hR⟩ : ∃ R, (dg == root) = R := ⟨_, rfl⟩
    rw [hR] at e1 hF
    clear hf hr5 hs5 hW2
    go_wp2_with (first
      | ((with_reducible refine wpl_string_w 23 9 5 (.tmp 16) rfl rfl ?_ ?_ ?_ _ ?_ _ q1 ?_); rfl; rfl; rfl; rfl)
      | ((with_reducible refine wpl_string_w 23 9 5 (.tmp 18) rfl rfl ?_ ?_ ?_ _ ?_ _ q2 ?_); rfl; rfl; rfl; rfl))
    go_ret
    exact ⟨by rw [hF.out]; rfl, hb2d.out⟩
end Go.Proofs.YthoaenpbmmjokaaDoor

/-
  A run of a group.
-/
import Derived.Test.YtplijfgjdlghbaaBCut
import Derived.Test.YtplijfgjdlghbaaBRef1
import Derived.Test.YtplijfgjdlghbaaBActs
import Derived.Deep.QuietTactic
import Derived.Deep.CutBlock
namespace Bra
/-- The group of the first i processes. -/
def Grp.upto (n : Nat) (liar : Nat → Bool) (i : Nat) : Grp := ⟨(List.range i).map fun j => if liar j then none else some (Bra.start n j), [], (List.range i).map fun _ => []⟩
theorem upto_succ (n : Nat) (liar : Nat → Bool) (i : Nat) : (Grp.upto n liar (i + 1)).all = (Grp.upto n liar i).all ++ [if liar i then none else some (Bra.start n i)] ∧ (Grp.upto n liar (i + 1)).casts = (Grp.upto n liar i).casts ++ [[]] := by
  simp [Grp.upto, List.range_succ]
theorem bads_succ (i : Nat) (liar : Nat → Bool) : bads (i + 1) liar = bads i liar ++ (if liar i then [i] else []) := by
  unfold bads
  rw [List.range_succ, List.filter_append]
  by_cases h : liar i = true <;> simp [h]
end Bra
namespace Go.Proofs.Ytplijfgjdlghbaa
open Go.RowKit Go.Pl
theorem infoSl : (Try.prog.info? 53).map (fun i => (i.zero, i.size, i.bytes)) = some (some (.slice none 0 0), 1, 24) := by kernel_rfl
theorem infoPtr : (Try.prog.info? 24).map (fun i => (i.zero, i.size, i.bytes)) = some (some (.pointer none), 1, 8) := by kernel_rfl
theorem infoStr : (Try.prog.info? 9).map (fun i => (i.zero, i.size, i.bytes)) = some (some (.string ⟨#[]⟩), 1, 16) := by kernel_rfl
theorem infoInt : (Try.prog.info? 3).map (fun i => (i.zero, i.size, i.bytes)) = some (some (.int .i64 0), 1, 8) := by kernel_rfl
/-- The group at its very start. -/
theorem grp_start {w w1 : World} (hw : w.alloc (.cells #[.slice none 0 0, .slice none 0 0, .slice none 0 0] 52) = w1) :
    GrpAt w1 (fun i => if i = w.heap.size then .grp else .no) w.heap.size ⟨[], [], []⟩ := by
  have hB : Blk w1 w.heap.size 52 #[.slice none 0 0, .slice none 0 0, .slice none 0 0] := by rw [← hw]; exact Blk.new' rfl
  have hlt := hB.lt
  refine ⟨fun _ _ => .no, fun _ => 0, none, 0, 0, [], none, 0, 0, [], none, 0, 0, [], fun i hi => ?_, by simp, hB, ⟨rfl, .inl ⟨rfl, rfl⟩⟩, fun b e => (by cases e), rfl, fun j o h => (by simp at h), ⟨rfl, .inl ⟨rfl, rfl, fun b e => (by cases e)⟩⟩, fun b e => (by cases e), rfl, ⟨rfl, .inl ⟨rfl, rfl⟩⟩, fun b e => (by cases e), rfl, fun j l h => (by simp at h), fun j p h => (by simp at h)⟩
  by_cases hx : i = w.heap.size
  · rw [hx]; exact hlt
  · simp [hx] at hi
/-- So far in the making: the liars' numbers in a row of the run's own, the group. -/
def Made (w : World) (g : Nat) (l : List Nat) (s : Bra.Grp) (t8 : Value) (wr : World) : Prop :=
  ∃ K BA bn bc, t8 = .slice BA bn bc ∧ bn = l.length ∧ wr.ownsRow 0 3 1 (.slice BA bn bc) bn (l.map fun (k : Nat) => iv (k : Int)) ∧ (∀ b, (Value.slice BA bn bc).ownBlock = some b → K b = .own) ∧
    GrpAt wr K g s ∧ Below w.heap.size w wr ∧ ∀ i, K i ≠ .no → w.heap.size ≤ i
theorem made_start {w w1 w2 : World} {g : Nat} (hg : w.heap.size = g) (hG : GrpAt w1 (fun i => if i = g then .grp else .no) g ⟨[], [], []⟩) (hb : Below w.heap.size w w1) (hw : w1.alloc (.cells #[] 3) = w2) :
    Made w g [] ⟨[], [], []⟩ (.slice (some ⟨w1.heap.size, 0, none⟩) 0 0) w2 := by
  have hb2 : Below w1.heap.size w1 w2 := by rw [← hw]; exact (Below.refl _ _).alloc (Nat.le_refl _) _
  have hz : w2.heap.size = w1.heap.size + 1 := by rw [← hw]; simp
  have ho : w2.ownsRow 0 3 1 (.slice (some ⟨w1.heap.size, 0, none⟩) 0 0) 0 [] := by rw [← hw]; exact World.ownsRow_made w1 #[] 0 (Nat.zero_le _) (Nat.zero_le _) rfl
  obtain ⟨Lb, Gs, AA, an, ac, av, PA, pn, pc, pv, CA, cn, cc, cv, h⟩ := hG
  obtain ⟨k1, k2, k3⟩ := (h.scratch (w' := w2) (ob := some w1.heap.size) (Fr.of_below hb2) (fun b e => by cases e; exact ⟨.inr (Nat.le_refl _), by omega⟩))
  refine ⟨_, _, 0, 0, rfl, rfl, ho, fun b e => if_pos (by simpa [Value.ownBlock] using e), k1.at_, hb.trans (hb2.mono hb.size), fun i hi => ?_⟩
  have hs := hb.size
  try dsimp only at hi
  by_cases hx : some w1.heap.size = some i
  · have : w1.heap.size = i := by simpa using hx
    omega
  · rw [if_neg hx] at hi
    by_cases hy : i = g
    · omega
    · simp [hy] at hi
theorem GrpAt.lo {w : World} {K : Nat → GL} {g : Nat} {s : Bra.Grp} (h : GrpAt w K g s) : ∀ i, K i ≠ .no → i < w.heap.size := by
  obtain ⟨_, _, _, _, _, _, _, _, _, _, _, _, _, _, h⟩ := h
  exact h.labs
/-- How a run ends. -/
def Ran (w : World) (n : Nat) (liar : Nat → Bool) (xs : List Bra.Act) (e : Ending) (w' : World) : Prop :=
  ((Bra.bads n liar).length ≤ Bra.faults n → ∃ g K, e = .returned (.tuple #[.pointer (some ⟨g, 0, none⟩), .bool true]) ∧ GrpAt w' K g (xs.foldl (Bra.Grp.act n (Bra.bads n liar)) (Bra.Grp.start n liar)) ∧ Below w.heap.size w w' ∧ ∀ i, K i ≠ .no → w.heap.size ≤ i) ∧
  (¬ (Bra.bads n liar).length ≤ Bra.faults n → ∃ g, e = .returned (.tuple #[.pointer (some ⟨g, 0, none⟩), .bool false]) ∧ Below w.heap.size w w')
set_option maxRecDepth 100000 in
set_option maxHeartbeats 8000000 in
theorem run_any (w : World) (n : Nat) (h1 : 1 ≤ n) (h7 : n ≤ 7) {LA : Option Addr} {ln lc : Nat} {bs : List Bool} (hls : Row w (fun _ => True) 1 LA ln lc (bs.map bv)) {A : Option Addr} {len c : Nat} {xs : List Bra.Act} (hr : RdA w (fun _ => True) A len c xs) (hq : ∀ x ∈ xs, ActOk x) (hlen : len ≤ 80)
    (liar : Nat → Bool) (hliar : ∀ i, liar i = bs.getD i false) :
    Calls Try.prog 19 #[.int .i64 n, .slice LA ln lc, .slice A len c] w (Ran w n liar xs) := by
  have e1 : ¬ (n : Int) < 1 := by omega
  have e2 : ¬ (7 : Int) < (n : Int) := by omega
  have e3 : ¬ (80 : Int) < (len : Int) := by omega
  have hrd := Lib.hid (hr.mono (T := fun i => i < w.heap.size) (fun i hi _ => hi))
  have hqd := Lib.hid hq
  have hlsd := Lib.hid (hls.mono (T := fun i => i < w.heap.size) (fun i hi _ => hi))
  have hlid := Lib.hid hliar
  have hlnl : Hid (bs.length = ln) := by show _ = _; have := hls.len; simpa using this
  have hlnm : ln ≤ 9223372036854775807 := by have h1 := hls.le; have h2 := hls.max; simp only [maxLen] at h2; omega
  clear hr hq hls hliar
  go_enter Try.func19, Try.ntmps19
  go_upto_region 2 with fail
  obtain ⟨w1, hw1⟩ : ∃ x, w.alloc (.cells #[.slice none 0 0, .slice none 0 0, .slice none 0 0] 52) = x := ⟨_, rfl⟩
  have hG1 := grp_start hw1
  have hb1 : Below w.heap.size w w1 := by rw [← hw1]; exact (Below.refl _ _).alloc (Nat.le_refl _) _
  rw [hw1]
  obtain ⟨g, hg⟩ : ∃ g, w.heap.size = g := ⟨_, rfl⟩
  have hgd := Lib.hid hg
  rw [hg] at hG1 ⊢
  clear hw1 hg
  go_upto_region 4 with fail
  clear e1 e2 e3
  go_upto_region 5 with fail
  obtain ⟨w2, hw2⟩ : ∃ x, w1.alloc (.cells #[] 3) = x := ⟨_, rfl⟩
  rw [hw2]
  have hst := Lib.hid (made_start hgd.out hG1 hb1 hw2)
  obtain ⟨gb, hgb⟩ : ∃ x, w1.heap.size = x := ⟨_, rfl⟩
  rw [hgb] at hst ⊢
  clear hw2 hgb hG1 hb1
  go_wp2_with fail
  go_loopw [6, 8, 9] (fun t6 t8 t9 wr => ∃ i : Nat, i ≤ n ∧ t6 = .pointer (some ⟨g, 0, none⟩) ∧ t9 = .int .i64 i ∧ Made w g (Bra.bads i liar) (Bra.Grp.upto n liar i) t8 wr) (fun _ _ t9 _ => n - (intOf t9).toNat)
  case atStart => exact ⟨0, by omega, rfl, rfl, hst.out⟩
  case round =>
    obtain ⟨i, hi, rfl, rfl, hM⟩ := hrel
    clear hst
    by_cases hlt : i < n
    · as_aux_lemma =>
        have hltI : (i : Int) < (n : Int) := by omega
        obtain ⟨K, BA, bn, bc, rfl, hbn, hbo, hbl, ⟨Lb, Gs, AA, an, ac, av, PA, pn, pc, pv, CA, cn, cc, cv, hG⟩, hbel, hlow⟩ := hM
        have hGd := Lib.hid hG
        have hbod := Lib.hid hbo
        have hbld := Lib.hid hbl
        have hbnd := Lib.hid hbn
        have hbeld := Lib.hid hbel
        have hlowd := Lib.hid hlow
        have hcn : cn ≤ 1000 := by rw [hG.cnLen]; simp [Bra.Grp.upto]; omega
        have han : an ≤ 1000 := by rw [hG.anLen]; simp [Bra.Grp.upto]; omega
        have hbn10 : bn ≤ 1000 := by have h2 := List.length_filter_le liar (List.range i); rw [List.length_range] at h2; have h3 : bn = ((List.range i).filter liar).length := hbn; omega
        have g2 : wr.cell? ⟨g, 2, none⟩ = some (.slice CA cn cc) := (hG.blk.cell 2).trans rfl
        obtain ⟨V, hV⟩ : ∃ V, (Value.slice CA cn cc).ownBlock = V := ⟨_, rfl⟩
        have hVd := Lib.hid hV
        have hrow := own_alc (own_alc hG.crow (.cells #[] 9)) (.cells #[.slice (some ⟨wr.heap.size, 0, none⟩) 0 0] 53)
        have r1 := Row.new (n := 1) (sz := 1) (wr.alloc (.cells #[] 9)) 53 #[.slice (some ⟨wr.heap.size, 0, none⟩) 0 0] [.slice (some ⟨wr.heap.size, 0, none⟩) 0 0] rfl rfl (by decide)
        rw [size_alloc1] at r1
        clear hG hbo hbl hbn hbel hlow hV
        go_wp2_with (at_builtin; refine wpl_app rfl (.tmp 42) (.tmp 44) 50 rfl 0 53 _ 1 24 Try.underlying50 infoSl rfl (by decide) (by decide) _ rfl cn cv hrow _ _ 1 1 rfl _ r1 ?h1 (by omega) (Nat.zero_le _) (cn + 1) rfl ?h2)
        case h1 => first | rfl | (intro u hu; simp at hu; subst hu; rfl)
        case h2 =>
          intro A2 c2 w3 ho3 hg3 hz3
          have b12 : Below wr.heap.size wr ((wr.alloc (.cells #[] 9)).alloc (.cells #[.slice (some ⟨wr.heap.size, 0, none⟩) 0 0] 53)) := ((Below.refl _ _).alloc (Nat.le_refl _) _).alloc (by simp) _
          have hin1 : ((wr.alloc (.cells #[] 9)).alloc (.cells #[.slice (some ⟨wr.heap.size, 0, none⟩) 0 0] 53)).ownsRow 0 9 1 (.slice (some ⟨wr.heap.size, 0, none⟩) 0 0) 0 [] := own_alc (World.ownsRow_made wr #[] 0 (Nat.zero_le _) (Nat.zero_le _) rfl) _
          have e12 : ((wr.alloc (.cells #[] 9)).alloc (.cells #[.slice (some ⟨wr.heap.size, 0, none⟩) 0 0] 53)).heap.size = wr.heap.size + 1 + 1 := by rw [size_alloc1, size_alloc1]
          obtain ⟨w12, hw12⟩ : ∃ x, (wr.alloc (.cells #[] 9)).alloc (.cells #[.slice (some ⟨wr.heap.size, 0, none⟩) 0 0] 53) = x := ⟨_, rfl⟩
          rw [hw12] at hg3 b12 hin1 e12
          rw [← e12] at hz3
          have z12 : wr.heap.size < w12.heap.size := by omega
          clear hw12 e12
          have f3 : Fr (fun i => V = some i) wr w3 := ((Fr.of_below (F := fun _ => False) b12).mono (F := fun i => V = some i) (fun _ h => h.elim)).grown hg3 (fun k e => .inl (by rw [← hVd.out]; exact e))
          have hgb := hGd.out.blk.fr f3 (fun e => by have h1 := hGd.out.clab g (by rw [hVd.out, e]); rw [hGd.out.lab] at h1; cases h1)
          have c1 : w3.cell? ⟨g, 2, none⟩ = some (.slice CA cn cc) := (hgb.cell 2).trans rfl
          have fz := hgb.frozen 2
          have ho3d := Lib.hid ho3
          have hg3d := Lib.hid hg3
          have hz3d := Lib.hid hz3
          have b12d := Lib.hid b12
          have hin1d := Lib.hid hin1
          have z12d := Lib.hid z12
          clear r1 hrow ho3 hg3 hz3 b12 hin1 z12 g2 f3 hgb
          go_upto_region 9 with fail
          obtain ⟨w4, hw4⟩ : ∃ x, w3.setCell ⟨g, 2, none⟩ (.slice A2 (cn + 1) c2) = x := ⟨_, rfl⟩
          rw [hw4]
          have hK := hGd.out.moreCast b12d.out z12d.out hin1d.out hg3d.out ho3d.out hz3d.out hw4
          obtain ⟨K4, hG4, hk1, hk2, hf4⟩ := hK
          have hlow4 : Hid (∀ x, K4 x ≠ .no → w.heap.size ≤ x) := fun x hx => by
            rcases hk2 x hx with h | h
            · exact hlowd.out x h
            · exact Nat.le_trans hbeld.out.size h
          have hbel4 : Hid (Below w.heap.size w w4) := hbeld.out.trans (hf4.below (fun x hx => hlowd.out x (by rcases hx with h | h <;> rw [h] <;> simp)) hbeld.out.size)
          have hbo4 : Hid (w4.ownsRow 0 3 1 (.slice BA bn bc) bn ((Bra.bads i liar).map fun (k : Nat) => iv (k : Int))) := own_fr hbod.out hf4 (fun b e h => by rw [hbld.out b e] at h; rcases h with h | h <;> cases h)
          have hbl4 : Hid (∀ b, (Value.slice BA bn bc).ownBlock = some b → K4 b = .own) := fun b e => by rw [hk1 b (by rw [hbld.out b e]; simp), hbld.out b e]
          have hcs := Bra.upto_succ n liar i
          obtain ⟨Lb4, Gs4, AA4, an4, ac4, av4, PA4, pn4, pc4, pv4, CA4, cn4, cc4, cv4, hG5⟩ := hG4
          have hG5d := Lib.hid hG5
          have han4 : an4 ≤ 1000 := by rw [hG5.anLen]; simp [Bra.Grp.upto]; omega
          have g0 : w4.cell? ⟨g, 0, none⟩ = some (.slice AA4 an4 ac4) := (hG5.blk.cell 0).trans rfl
          obtain ⟨V4, hV4⟩ : ∃ V, (Value.slice AA4 an4 ac4).ownBlock = V := ⟨_, rfl⟩
          have hV4d := Lib.hid hV4
          have hcsd := Lib.hid hcs
          clear hw4 hGd hbod hbld hbeld hlowd b12d z12d hin1d hg3d ho3d hz3d hk1 hk2 hf4 hcs hG5 c1 fz hV4 hVd
          have hle4 : Hid (∀ x, w4.heap.size ≤ x → K4 x = .no) := fun x hx => Classical.byContradiction fun hy => by have := hG5d.out.labs x hy; omega
          rcases Bool.eq_false_or_eq_true (liar i) with hli | hli
          · have hiln : i < ln := Classical.byContradiction fun hx => by
              rw [hlid.out, List.getD_eq_getElem?_getD, List.getElem?_eq_none (by rw [hlnl.out]; omega)] at hli
              cases hli
            have hilnI : (i : Int) < (ln : Int) := by omega
            obtain ⟨lb, lo, rfl, hlb, -, hlat⟩ := hlsd.out.at_ (by omega)
            have lcell : w4.cell? ⟨lb, lo + i, none⟩ = some (.bool true) := by
              rw [hbel4.out.cell (p := ⟨lb, lo + i, none⟩) hlb, hlat i (by omega), List.getElem?_map]
              rw [hlid.out, List.getD_eq_getElem?_getD] at hli
              have hx : i < bs.length := by rw [hlnl.out]; exact hiln
              rw [List.getElem?_eq_getElem hx] at hli ⊢
              simp at hli
              rw [hli]; rfl
            have hrowb := own_alc hbo4.out (.cells #[.int .i64 (i : Int)] 3)
            have r5 := Row.new (n := 1) (sz := 1) w4 3 #[.int .i64 (i : Int)] [.int .i64 (i : Int)] rfl rfl (by decide)
            have hlih := Lib.hid hli
            clear hli hlat
            go_wp2_with (at_builtin; refine wpl_app rfl (.tmp 58) (.tmp 60) 57 rfl 0 3 _ 1 8 Try.underlying57 infoInt rfl (by decide) (by decide) _ rfl bn ((Bra.bads i liar).map fun (k : Nat) => iv (k : Int)) hrowb _ _ 1 1 rfl _ r5 ?h1 (by omega) (Nat.zero_le _) (bn + 1) rfl ?h2)
            case h1 => first | rfl | (intro u hu; simp at hu; subst hu; rfl)
            case h2 =>
              intro A5 c5 w5 ho5 hg5 hz5
              have f5 : Fr (fun x => K4 x = .own) w4 w5 := (((Fr.refl (fun _ => False) w4).alloc (.cells #[.int .i64 (i : Int)] 3)).mono (F := fun x => K4 x = .own) (fun _ h => h.elim)).grown hg5 (fun k e => .inl (hbl4.out k e))
              obtain ⟨k51, k52, k53⟩ := hG5d.out.scratch (ob := (Value.slice A5 (bn + 1) c5).ownBlock) f5 (fun b e => ⟨by
                rcases hz5 with h | h
                · exact .inl (hbl4.out b (by rw [← h, e]))
                · rw [e] at h
                  have h : b = w4.heap.size + 1 := by simpa using h
                  exact .inr (by omega), (own_lt ho5 b e).2⟩)
              have hlow5 : Hid (∀ x, (if (Value.slice A5 (bn + 1) c5).ownBlock = some x then GL.own else K4 x) ≠ .no → w.heap.size ≤ x) := fun x hx => by
                by_cases hy : (Value.slice A5 (bn + 1) c5).ownBlock = some x
                · rcases hz5 with h | h
                  · exact hlow4.out x (by rw [hbl4.out x (by rw [← h, hy])]; simp)
                  · rw [hy] at h
                    have h : x = w4.heap.size + 1 := by simpa using h
                    have := hbel4.out.size; omega
                · rw [if_neg hy] at hx; exact hlow4.out x hx
              have hbel5 : Hid (Below w.heap.size w w5) := hbel4.out.trans (f5.below (fun x hx => hlow4.out x (by rw [hx]; simp)) hbel4.out.size)
              have hbl5 : Hid (∀ b, (Value.slice A5 (bn + 1) c5).ownBlock = some b → (if (Value.slice A5 (bn + 1) c5).ownBlock = some b then GL.own else K4 b) = .own) := fun b e => if_pos e
              have hG6at := k51.at_
              have hbo5 : Hid (w5.ownsRow 0 3 1 (.slice A5 (bn + 1) c5) (bn + 1) ((Bra.bads (i + 1) liar).map fun (k : Nat) => iv (k : Int))) := by
                show World.ownsRow _ _ _ _ _ _ _
                rw [Bra.bads_succ, hlih.out, if_pos rfl, List.map_append]; exact ho5
              clear f5 hz5 k51 k52 k53 ho5 hg5 hrowb r5 lcell g0 hlow4 hbel4 hbl4 hbo4
              obtain ⟨Lb6, Gs6, AA6, an6, ac6, av6, PA6, pn6, pc6, pv6, CA6, cn6, cc6, cv6, hG6⟩ := hG6at
              have hG6d := Lib.hid hG6
              have han6 : an6 ≤ 1000 := by rw [hG6.anLen]; simp [Bra.Grp.upto]; omega
              have g06 : w5.cell? ⟨g, 0, none⟩ = some (.slice AA6 an6 ac6) := (hG6.blk.cell 0).trans rfl
              obtain ⟨V6, hV6⟩ : ∃ V, (Value.slice AA6 an6 ac6).ownBlock = V := ⟨_, rfl⟩
              have hV6d := Lib.hid hV6
              have hrow6 := own_alc hG6.arow (.cells #[.pointer none] 24)
              have r6 := Row.new (n := 1) (sz := 1) w5 24 #[.pointer none] [.pointer none] rfl rfl (by decide)
              clear hG6 hV6
              go_wp2_with (at_builtin; refine wpl_app rfl (.tmp 66) (.tmp 67) 49 rfl 0 24 _ 1 8 Try.underlying49 infoPtr rfl (by decide) (by decide) _ rfl an6 av6 hrow6 _ _ 1 1 rfl _ r6 ?h1 (by omega) (Nat.zero_le _) (an6 + 1) rfl ?h2)
              case h1 => first | rfl | (intro u hu; simp at hu; subst hu; rfl)
              case h2 =>
                intro A7 c7 w7 ho7 hg7 hz7
                have b67 : Below w5.heap.size w5 (w5.alloc (.cells #[.pointer none] 24)) := (Below.refl _ _).alloc (Nat.le_refl _) _
                have e67 : (w5.alloc (.cells #[.pointer none] 24)).heap.size = w5.heap.size + 1 := by rw [size_alloc1]
                obtain ⟨w6, hw6⟩ : ∃ x, w5.alloc (.cells #[.pointer none] 24) = x := ⟨_, rfl⟩
                rw [hw6] at hg7 b67 e67
                rw [← e67] at hz7
                clear hw6 e67
                have f7 : Fr (fun i => V6 = some i) w5 w7 := ((Fr.of_below (F := fun _ => False) b67).mono (F := fun i => V6 = some i) (fun _ h => h.elim)).grown hg7 (fun k e => .inl (by rw [← hV6d.out]; exact e))
                have hgb7 := hG6d.out.blk.fr f7 (fun e => by have h1 := hG6d.out.alab g (by rw [hV6d.out, e]); rw [hG6d.out.lab] at h1; cases h1)
                have c17 : w7.cell? ⟨g, 0, none⟩ = some (.slice AA6 an6 ac6) := (hgb7.cell 0).trans rfl
                have fz7 := hgb7.frozen 0
                have ho7d := Lib.hid ho7
                have hg7d := Lib.hid hg7
                have hz7d := Lib.hid hz7
                have b67d := Lib.hid b67
                clear r6 hrow6 ho7 hg7 hz7 b67 f7 hgb7 g06
                go_wp2_with fail
                go_roundw
                case rel =>
                  obtain ⟨K8, hG8, hk1, hk2, hf8⟩ := hG6d.out.moreAll (G := 0) (L := fun _ => .no) (o := none) rfl (fun p h => by cases h) (fun x h => absurd rfl h) b67d.out hg7d.out ho7d.out hz7d.out rfl
                  refine ⟨i + 1, by omega, rfl, by go_num, K8, _, _, _, rfl, ?_, own_fr hbo5.out hf8 (fun b e h => by rw [hbl5.out b e] at h; rcases h with h | h <;> cases h), fun b e => ?_, ?_, ?_, fun x hx => ?_⟩
                  · rw [Bra.bads_succ, hlih.out, List.length_append]; show bn + 1 = _ + 1; rw [hbnd.out]
                  · rw [hk1 b (by rw [hbl5.out b e]; simp)]; exact hbl5.out b e
                  · have hx1 := hcsd.out.1
                    have hx2 := hcsd.out.2
                    rw [hlih.out] at hx1
                    have hx3 : Bra.Grp.upto n liar (i + 1) = ⟨(Bra.Grp.upto n liar i).all ++ [none], [], (Bra.Grp.upto n liar i).casts ++ [[]]⟩ := by
                      rw [show Bra.Grp.upto n liar (i + 1) = ⟨(Bra.Grp.upto n liar (i + 1)).all, [], (Bra.Grp.upto n liar (i + 1)).casts⟩ from rfl, hx1, hx2]; rfl
                    rw [hx3]; exact hG8
                  · exact hbel5.out.trans (hf8.below (fun x hx => hlow5.out x (by rcases hx with h | h <;> rw [h] <;> simp)) hbel5.out.size)
                  · rcases hk2 x hx with h | h | h
                    · exact hlow5.out x h
                    · exact absurd rfl h
                    · exact Nat.le_trans hbel5.out.size h
                case measure => simp [intOf]; omega
          · have hlz : Hid (liar i = false) := hli
            have heq := @eq_nil_proc
            have hstep : ∀ K0 : Prop, True := fun _ => trivial
            clear hstep hli
            by_cases hiln : i < ln
            · have hilnI : (i : Int) < (ln : Int) := by omega
              obtain ⟨lb, lo, rfl, hlb, -, hlat⟩ := hlsd.out.at_ (by omega)
              have lcell : w4.cell? ⟨lb, lo + i, none⟩ = some (.bool false) := by
                have hli := hlz.out
                rw [hbel4.out.cell (p := ⟨lb, lo + i, none⟩) hlb, hlat i (by omega), List.getElem?_map]
                rw [hlid.out, List.getD_eq_getElem?_getD] at hli
                have hx : i < bs.length := by rw [hlnl.out]; exact hiln
                rw [List.getElem?_eq_getElem hx] at hli ⊢
                simp at hli
                rw [hli]; rfl
              clear hlat
              go_wp2_with fail
              refine (new_any w4 n i h1 (by omega) hlt).mono ?_
              rintro e w5 ⟨G, L5, rfl, hp5, hl5, hb5⟩
              have hG6at := (hG5d.out.upTo hb5).at_
              have hbel5 : Hid (Below w.heap.size w w5) := hbel4.out.trans (hb5.mono hbel4.out.size)
              have hbo5 : Hid (w5.ownsRow 0 3 1 (.slice BA bn bc) bn ((Bra.bads (i + 1) liar).map fun (k : Nat) => iv (k : Int))) := by
                show World.ownsRow _ _ _ _ _ _ _
                rw [Bra.bads_succ, hlz.out, if_neg Bool.false_ne_true, List.append_nil]; exact own_fr hbo4.out (Fr.of_below (F := fun _ => False) hb5) (fun _ _ h => h)
              have hp5 := Lib.hid hp5
              have hl5 := Lib.hid hl5
              clear g0 hb5
              obtain ⟨Lb6, Gs6, AA6, an6, ac6, av6, PA6, pn6, pc6, pv6, CA6, cn6, cc6, cv6, hG6⟩ := hG6at
              have hG6d := Lib.hid hG6
              have han6 : an6 ≤ 1000 := by rw [hG6.anLen]; simp [Bra.Grp.upto]; omega
              have g06 : w5.cell? ⟨g, 0, none⟩ = some (.slice AA6 an6 ac6) := (hG6.blk.cell 0).trans rfl
              obtain ⟨V6, hV6⟩ : ∃ V, (Value.slice AA6 an6 ac6).ownBlock = V := ⟨_, rfl⟩
              have hV6d := Lib.hid hV6
              have hrow6 := own_alc hG6.arow (.cells #[.pointer (some ⟨G, 0, none⟩)] 24)
              have r6 := Row.new (n := 1) (sz := 1) w5 24 #[.pointer (some ⟨G, 0, none⟩)] [.pointer (some ⟨G, 0, none⟩)] rfl rfl (by decide)
              clear hG6 hV6
              go_wp2_with (at_builtin; refine wpl_app rfl (.tmp 88) (.tmp 90) 49 rfl 0 24 _ 1 8 Try.underlying49 infoPtr rfl (by decide) (by decide) _ rfl an6 av6 hrow6 _ _ 1 1 rfl _ r6 ?h1 (by omega) (Nat.zero_le _) (an6 + 1) rfl ?h2)
              case h1 => first | rfl | (intro u hu; simp at hu; subst hu; rfl)
              case h2 =>
                intro A7 c7 w7 ho7 hg7 hz7
                have b67 : Below w5.heap.size w5 (w5.alloc (.cells #[.pointer (some ⟨G, 0, none⟩)] 24)) := (Below.refl _ _).alloc (Nat.le_refl _) _
                have e67 : (w5.alloc (.cells #[.pointer (some ⟨G, 0, none⟩)] 24)).heap.size = w5.heap.size + 1 := by rw [size_alloc1]
                obtain ⟨w6, hw6⟩ : ∃ x, w5.alloc (.cells #[.pointer (some ⟨G, 0, none⟩)] 24) = x := ⟨_, rfl⟩
                rw [hw6] at hg7 b67 e67
                rw [← e67] at hz7
                clear hw6 e67
                have f7 : Fr (fun i => V6 = some i) w5 w7 := ((Fr.of_below (F := fun _ => False) b67).mono (F := fun i => V6 = some i) (fun _ h => h.elim)).grown hg7 (fun k e => .inl (by rw [← hV6d.out]; exact e))
                have hgb7 := hG6d.out.blk.fr f7 (fun e => by have h1 := hG6d.out.alab g (by rw [hV6d.out, e]); rw [hG6d.out.lab] at h1; cases h1)
                have c17 : w7.cell? ⟨g, 0, none⟩ = some (.slice AA6 an6 ac6) := (hgb7.cell 0).trans rfl
                have fz7 := hgb7.frozen 0
                have ho7d := Lib.hid ho7
                have hg7d := Lib.hid hg7
                have hz7d := Lib.hid hz7
                have b67d := Lib.hid b67
                clear r6 hrow6 ho7 hg7 hz7 b67 f7 hgb7 g06
                go_wp2_with fail
                go_roundw
                case rel =>
                  obtain ⟨K8, hG8, hk1, hk2, hf8⟩ := hG6d.out.moreAll (G := G) (L := L5) (o := some (Bra.start n i)) rfl (fun p h => by cases h; exact hp5.out) (fun x h => ⟨hle4.out x (hl5.out x h), hp5.out.labs x h⟩) b67d.out hg7d.out ho7d.out hz7d.out rfl
                  refine ⟨i + 1, by omega, rfl, by go_num, K8, _, _, _, rfl, ?_, own_fr hbo5.out hf8 (fun b e h => by rw [hbl4.out b e] at h; rcases h with h | h <;> cases h), fun b e => ?_, ?_, ?_, fun x hx => ?_⟩
                  · rw [Bra.bads_succ, hlz.out, if_neg Bool.false_ne_true, List.append_nil]; exact hbnd.out
                  · rw [hk1 b (by rw [hbl4.out b e]; simp)]; exact hbl4.out b e
                  · have hx1 := hcsd.out.1
                    have hx2 := hcsd.out.2
                    rw [hlz.out] at hx1
                    have hx3 : Bra.Grp.upto n liar (i + 1) = ⟨(Bra.Grp.upto n liar i).all ++ [some (Bra.start n i)], [], (Bra.Grp.upto n liar i).casts ++ [[]]⟩ := by
                      rw [show Bra.Grp.upto n liar (i + 1) = ⟨(Bra.Grp.upto n liar (i + 1)).all, [], (Bra.Grp.upto n liar (i + 1)).casts⟩ from rfl, hx1, hx2]; rfl
                    rw [hx3]; exact hG8
                  · exact hbel5.out.trans (hf8.below (fun x hx => hlow4.out x (by rcases hx with h | h <;> rw [h] <;> simp)) hbel5.out.size)
                  · rcases hk2 x hx with h | h | h
                    · exact hlow4.out x h
                    · exact Nat.le_trans hbel4.out.size (hl5.out x h)
                    · exact Nat.le_trans hbel5.out.size h
                case measure => simp [intOf]; omega
            · have hilnI : decide ((i : Int) < (ln : Int)) = false := decide_eq_false (by omega)
              have hilnN : decide (i < ln) = false := decide_eq_false hiln
              clear hiln
              go_wp2_with fail
              refine (new_any w4 n i h1 (by omega) hlt).mono ?_
              rintro e w5 ⟨G, L5, rfl, hp5, hl5, hb5⟩
              have hG6at := (hG5d.out.upTo hb5).at_
              have hbel5 : Hid (Below w.heap.size w w5) := hbel4.out.trans (hb5.mono hbel4.out.size)
              have hbo5 : Hid (w5.ownsRow 0 3 1 (.slice BA bn bc) bn ((Bra.bads (i + 1) liar).map fun (k : Nat) => iv (k : Int))) := by
                show World.ownsRow _ _ _ _ _ _ _
                rw [Bra.bads_succ, hlz.out, if_neg Bool.false_ne_true, List.append_nil]; exact own_fr hbo4.out (Fr.of_below (F := fun _ => False) hb5) (fun _ _ h => h)
              have hp5 := Lib.hid hp5
              have hl5 := Lib.hid hl5
              clear g0 hb5
              obtain ⟨Lb6, Gs6, AA6, an6, ac6, av6, PA6, pn6, pc6, pv6, CA6, cn6, cc6, cv6, hG6⟩ := hG6at
              have hG6d := Lib.hid hG6
              have han6 : an6 ≤ 1000 := by rw [hG6.anLen]; simp [Bra.Grp.upto]; omega
              have g06 : w5.cell? ⟨g, 0, none⟩ = some (.slice AA6 an6 ac6) := (hG6.blk.cell 0).trans rfl
              obtain ⟨V6, hV6⟩ : ∃ V, (Value.slice AA6 an6 ac6).ownBlock = V := ⟨_, rfl⟩
              have hV6d := Lib.hid hV6
              have hrow6 := own_alc hG6.arow (.cells #[.pointer (some ⟨G, 0, none⟩)] 24)
              have r6 := Row.new (n := 1) (sz := 1) w5 24 #[.pointer (some ⟨G, 0, none⟩)] [.pointer (some ⟨G, 0, none⟩)] rfl rfl (by decide)
              clear hG6 hV6
              go_wp2_with (at_builtin; refine wpl_app rfl (.tmp 88) (.tmp 90) 49 rfl 0 24 _ 1 8 Try.underlying49 infoPtr rfl (by decide) (by decide) _ rfl an6 av6 hrow6 _ _ 1 1 rfl _ r6 ?h1 (by omega) (Nat.zero_le _) (an6 + 1) rfl ?h2)
              case h1 => first | rfl | (intro u hu; simp at hu; subst hu; rfl)
              case h2 =>
                intro A7 c7 w7 ho7 hg7 hz7
                have b67 : Below w5.heap.size w5 (w5.alloc (.cells #[.pointer (some ⟨G, 0, none⟩)] 24)) := (Below.refl _ _).alloc (Nat.le_refl _) _
                have e67 : (w5.alloc (.cells #[.pointer (some ⟨G, 0, none⟩)] 24)).heap.size = w5.heap.size + 1 := by rw [size_alloc1]
                obtain ⟨w6, hw6⟩ : ∃ x, w5.alloc (.cells #[.pointer (some ⟨G, 0, none⟩)] 24) = x := ⟨_, rfl⟩
                rw [hw6] at hg7 b67 e67
                rw [← e67] at hz7
                clear hw6 e67
                have f7 : Fr (fun i => V6 = some i) w5 w7 := ((Fr.of_below (F := fun _ => False) b67).mono (F := fun i => V6 = some i) (fun _ h => h.elim)).grown hg7 (fun k e => .inl (by rw [← hV6d.out]; exact e))
                have hgb7 := hG6d.out.blk.fr f7 (fun e => by have h1 := hG6d.out.alab g (by rw [hV6d.out, e]); rw [hG6d.out.lab] at h1; cases h1)
                have c17 : w7.cell? ⟨g, 0, none⟩ = some (.slice AA6 an6 ac6) := (hgb7.cell 0).trans rfl
                have fz7 := hgb7.frozen 0
                have ho7d := Lib.hid ho7
                have hg7d := Lib.hid hg7
                have hz7d := Lib.hid hz7
                have b67d := Lib.hid b67
                clear r6 hrow6 ho7 hg7 hz7 b67 f7 hgb7 g06
                go_wp2_with fail
                go_roundw
                case rel =>
                  obtain ⟨K8, hG8, hk1, hk2, hf8⟩ := hG6d.out.moreAll (G := G) (L := L5) (o := some (Bra.start n i)) rfl (fun p h => by cases h; exact hp5.out) (fun x h => ⟨hle4.out x (hl5.out x h), hp5.out.labs x h⟩) b67d.out hg7d.out ho7d.out hz7d.out rfl
                  refine ⟨i + 1, by omega, rfl, by go_num, K8, _, _, _, rfl, ?_, own_fr hbo5.out hf8 (fun b e h => by rw [hbl4.out b e] at h; rcases h with h | h <;> cases h), fun b e => ?_, ?_, ?_, fun x hx => ?_⟩
                  · rw [Bra.bads_succ, hlz.out, if_neg Bool.false_ne_true, List.append_nil]; exact hbnd.out
                  · rw [hk1 b (by rw [hbl4.out b e]; simp)]; exact hbl4.out b e
                  · have hx1 := hcsd.out.1
                    have hx2 := hcsd.out.2
                    rw [hlz.out] at hx1
                    have hx3 : Bra.Grp.upto n liar (i + 1) = ⟨(Bra.Grp.upto n liar i).all ++ [some (Bra.start n i)], [], (Bra.Grp.upto n liar i).casts ++ [[]]⟩ := by
                      rw [show Bra.Grp.upto n liar (i + 1) = ⟨(Bra.Grp.upto n liar (i + 1)).all, [], (Bra.Grp.upto n liar (i + 1)).casts⟩ from rfl, hx1, hx2]; rfl
                    rw [hx3]; exact hG8
                  · exact hbel5.out.trans (hf8.below (fun x hx => hlow4.out x (by rcases hx with h | h <;> rw [h] <;> simp)) hbel5.out.size)
                  · rcases hk2 x hx with h | h | h
                    · exact hlow4.out x h
                    · exact Nat.le_trans hbel4.out.size (hl5.out x h)
                    · exact Nat.le_trans hbel5.out.size h
                case measure => simp [intOf]; omega
    · have hltI : ¬ (i : Int) < (n : Int) := by omega
      have hin : i = n := by omega
      rw [hin] at hM
      obtain ⟨wm, rfl⟩ : ∃ x, x = wr := ⟨_, rfl⟩
      obtain ⟨K, BA, bn, bc, rfl, hbn, hbo, hbl, hG, hbel, hlow⟩ := hM
      have hff : ((Bra.faults n : Nat) : Int) = ((Bra.faults n : Nat) : Int) := rfl
      obtain ⟨ff, hfe⟩ : ∃ x, Bra.faults n = x := ⟨_, rfl⟩
      have hfl : ff ≤ 10 := by rw [← hfe]; unfold Bra.faults; omega
      have hfed := Lib.hid hfe
      have hbl10 : bn ≤ 7 := by have h2 := List.length_filter_le liar (List.range n); rw [List.length_range] at h2; have h3 : bn = ((List.range n).filter liar).length := hbn; omega
      have hbnd := Lib.hid hbn
      have hbod := Lib.hid hbo
      have hbld := Lib.hid hbl
      have hGd := Lib.hid hG
      have hbeld := Lib.hid hbel
      have hlowd := Lib.hid hlow
      clear hff hfe hbn hbo hbl hG hbel hlow hin hlt hi
      go_wp2_with fail
      refine (rfaults_any wm n (by omega)).mono ?_
      rw [hfed.out]
      rintro e w3 ⟨rfl, rfl⟩
      by_cases hbf : bn ≤ ff
      · have hbfI : decide ((ff : Int) < (bn : Int)) = false := decide_eq_false (by omega)
        have hbfN : decide (ff < bn) = false := decide_eq_false (by omega)
        have hif : Hid ((Bra.bads n liar).length ≤ ff) := by show _ ≤ _; rw [← hbnd.out]; exact hbf
        clear hbf
        go_wp2_with fail
        go_loopw [12] (fun t12 wr => ∃ (j : Nat) (K' : Nat → GL) (s : Bra.Grp), j ≤ len ∧ t12 = .int .i64 j ∧ (xs.take j).foldl (Bra.Grp.act n (Bra.bads n liar)) (Bra.Grp.start n liar) = s ∧ Bra.Fine n j s ∧ GrpAt wr K' g s ∧ Went wm K wr K') (fun t12 _ => len - (intOf t12).toNat)
        case atStart => exact ⟨0, K, _, by omega, rfl, rfl, Bra.Fine.start liar, hGd.out, Went.refl _ _⟩
        case round =>
          obtain ⟨j, K1, s, hj, rfl, hs, hfine, hG1, hwt⟩ := hrel
          by_cases hjl : j < len
          · have hjI : (j : Int) < (len : Int) := by omega
            obtain ⟨x, hx⟩ : ∃ x, xs[j]? = some x := ⟨_, List.getElem?_eq_getElem (by rw [hrd.out.1]; exact hjl)⟩
            have hwlow : Hid (Below w.heap.size w wr) := hbeld.out.trans (hwt.2.below (fun y hy => hlowd.out y hy.1) hbeld.out.size)
            obtain ⟨ab, ao, sv, rfl, hab, -, hsv, hrg⟩ := (hrd.out.fr (Fr.of_below (F := fun y => w.heap.size ≤ y) hwlow.out) (fun y h1 h2 => by omega)).2.2.2 j x hx
            have hok := Lib.hid (hqd.out x (List.mem_of_getElem? hx))
            have hnx : Hid ((xs.take (j + 1)).foldl (Bra.Grp.act n (Bra.bads n liar)) (Bra.Grp.start n liar) = s.act n (Bra.bads n liar) x) := by
              show _ = _
              rw [List.take_add_one, hx, List.foldl_append, hs]; rfl
            have hfined := Lib.hid hfine
            have hG1d := Lib.hid hG1
            have hwtd := Lib.hid hwt
            obtain ⟨Ap, pl, pcap, rfl, hrp⟩ := hsv
            have hrpd := Lib.hid hrp
            obtain ⟨kd, pk, m⟩ := x
            have hrg' : wr.rangeAt ab (ao + j * 8) [.int .i64 kd, .int .i64 pk, .int .i64 m.kind, .int .i64 m.src, .int .i64 m.to, .int .i64 m.origin, .int .i64 m.number, .slice Ap pl pcap] := hrg
            clear hs hfine hG1 hwt hrp hrg hx
            go_upto_region 22 with ((with_reducible refine wpList_load_mid rfl 94 (.tmp 108) rfl ab (ao + j * 8) ?_ _ _ hrg' Try.underlying94 rfl ?_ ?_); rfl; kernel_rfl)
            obtain ⟨wx, hwx⟩ : ∃ x, wr.alloc (.cells #[.int .i64 kd, .int .i64 pk, .int .i64 m.kind, .int .i64 m.src, .int .i64 m.to, .int .i64 m.origin, .int .i64 m.number, .slice Ap pl pcap] 94) = x := ⟨_, rfl⟩
            have hX : Hid (Blk wx wr.heap.size 94 #[.int .i64 kd, .int .i64 pk, .int .i64 m.kind, .int .i64 m.src, .int .i64 m.to, .int .i64 m.origin, .int .i64 m.number, .slice Ap pl pcap]) := by show Blk _ _ _ _; rw [← hwx]; exact Blk.new' rfl
            have hbx : Below wr.heap.size wr wx := by rw [← hwx]; exact (Below.refl _ _).alloc (Nat.le_refl _) _
            rw [hwx]
            have hGx := Lib.hid (hG1d.out.up hbx)
            have hwtx := Lib.hid (hwtd.out.up hbx)
            have hlowx : Hid (Below w.heap.size w wx) := hwlow.out.trans (hbx.mono hwlow.out.size)
            have hbox : Hid (wx.ownsRow 0 3 1 (.slice BA bn bc) bn ((Bra.bads n liar).map fun (k : Nat) => iv (k : Int))) := own_fr hbod.out hwtx.out.2 (fun b e hb => hb.2 (hbld.out b e))
            have hrx : Hid (Rd wx (fun y => K1 y = .no) Ap pl pcap m.payload) := (hrpd.out.fr (Fr.of_below (F := fun _ => False) hbx) (fun _ _ h => h)).mono (T := fun y => K1 y = .no) (fun y _ hy => by
              show K1 y = .no
              rw [hwtd.out.1 y (Nat.lt_of_lt_of_le hy hbeld.out.size)]
              exact Classical.byContradiction fun hz => by have := hlowd.out y hz; omega)
            have x0 : wx.cell? ⟨wr.heap.size, 0, none⟩ = some (.int .i64 kd) := (hX.out.cell 0).trans rfl
            have x1 : wx.cell? ⟨wr.heap.size, 1, none⟩ = some (.int .i64 pk) := (hX.out.cell 1).trans rfl
            have x7 : wx.cell? ⟨wr.heap.size, 7, none⟩ = some (.slice Ap pl pcap) := (hX.out.cell 7).trans rfl
            have hKx : Hid (K1 wr.heap.size = .no) := Classical.byContradiction fun hz => by have := hG1d.out.lo _ hz; omega
            obtain ⟨xb, hxb⟩ : ∃ x, wr.heap.size = x := ⟨_, rfl⟩
            rw [hxb] at hX hKx x0 x1 x7 ⊢
            clear hwx hbx hG1d hwtd hwlow hrg' hrpd hrd hxb
            by_cases k0 : kd = 0
            · as_aux_lemma =>
                subst k0
                have hkn := Bra.modn_lt pk h1
                obtain ⟨k, hk⟩ : ∃ k, Bra.modn pk n = k := ⟨_, rfl⟩
                have hkd := Lib.hid hk
                rw [hk] at hkn
                clear hk
                have hknI : (k : Int) < (n : Int) := by omega
                go_wp2_with fail
                refine (mod_any wx pk hok.out.2.1 n h1 (by omega)).mono ?_
                rw [hkd.out]
                rintro e w' ⟨rfl, rfl⟩
                clear x0 x1
                obtain ⟨Lb, Gs, AA, an, ac, av, PA, pn, pc, pv, CA, cn, cc, cv, hG⟩ := hGx.out
                obtain rfl : n = an := by rw [hG.anLen]; exact hfined.out.all.symm
                obtain rfl : n = cn := by rw [hG.cnLen]; exact hfined.out.casts.symm
                have g0 : wx.cell? ⟨g, 0, none⟩ = some (.slice AA n ac) := (hG.blk.cell 0).trans rfl
                have g2 : wx.cell? ⟨g, 2, none⟩ = some (.slice CA n cc) := (hG.blk.cell 2).trans rfl
                obtain ⟨l, hl⟩ : ∃ l, s.casts[k]? = some l := ⟨_, List.getElem?_eq_getElem (by rw [hfined.out.casts]; exact hkn)⟩
                have hgl : Hid (s.casts.getD k [] = l) := by show _ = _; rw [List.getD_eq_getElem?_getD, hl]; rfl
                obtain ⟨A0, n0, c0, hcv, hrow0, hlab0⟩ := hG.cast k l hl
                have hn0 : Hid (l.length = n0) := by show _ = _; have h3 := hrow0.1; simp at h3; omega
                obtain ⟨cb, cq, hCA, -, hcb, hcat⟩ := (own_row hG.crow).at_ (by omega)
                have hcq : cq = 0 := by
                  rcases hG.crow.2 with ⟨he, _⟩ | ⟨g', cap, cur, he, _⟩
                  · cases he; cases hCA
                  · cases he; cases hCA; rfl
                subst hcq
                subst hCA
                have hck := hcat k (by omega)
                rw [Nat.zero_add, hcv] at hck
                have hask := hG.ask (k : Int)
                have hGd := Lib.hid hG
                have hcvd := Lib.hid hcv
                have hrow0d := Lib.hid hrow0
                have hlab0d := Lib.hid hlab0
                have hcbd := Lib.hid hcb
                have hld := Lib.hid hl
                clear hG hcat hcv hrow0 hlab0 hcb hl
                have hne := @ne_nil_proc
                rcases hask with ⟨h3, -⟩ | ⟨h3, -, -⟩ | ⟨k', ab, hkk, -, rfl, hab, hcase⟩
                · omega
                · omega
                · have hkk : k' = k := by omega
                  subst hkk
                  have habd := Lib.hid hab
                  clear hab
                  rcases hcase with ⟨-, h4, hc⟩ | ⟨p, -, h4, hc⟩
                  · have hact : Hid (s.act n (Bra.bads n liar) ⟨0, pk, m⟩ = s) := by
                      show _ = _
                      unfold Bra.Grp.act
                      rw [if_pos rfl]
                      dsimp only
                      rw [hkd.out]
                      unfold Bra.Grp.say
                      rw [h4]
                      rfl
                    clear h4
                    go_wp2_with fail
                    go_roundw
                    case rel => exact ⟨j + 1, K1, s, by omega, by go_num, by rw [hnx.out, hact.out], hfined.out.more, hGx.out, hwtx.out⟩
                    case measure => simp [intOf]; omega
                  · have h4d := Lib.hid h4
                    by_cases hl3 : n0 < 3
                    · have hl3I : (n0 : Int) < 3 := by omega
                      have hact : Hid (s.act n (Bra.bads n liar) ⟨0, pk, m⟩ = (({ s with casts := s.casts.set k' (l ++ [m.payload]) } : Bra.Grp).put k' (Bra.bcast p m.payload).1).send (Bra.bcast p m.payload).2) := by
                        show _ = _
                        unfold Bra.Grp.act
                        rw [if_pos rfl]
                        dsimp only
                        rw [hkd.out]
                        unfold Bra.Grp.say
                        rw [h4]
                        show (if _ then _ else _) = _
                        rw [if_pos (by rw [hgl.out, hn0.out]; exact hl3), hgl.out]
                        rfl
                      clear h4
                      go_upto_region 26 with fail
                      obtain ⟨F, hF⟩ : ∃ F : Nat → Prop, F = fun i => (Value.slice A0 n0 c0).ownBlock = some i := ⟨_, rfl⟩
                      have hFK : ∀ i, F i → K1 i = .cast k' := by rw [hF]; exact hlab0d.out
                      have ng : ¬ F g := fun h => by have h1 := hFK g h; rw [hGd.out.lab] at h1; cases h1
                      have nc : ¬ F cb := fun h => by have h1 := hFK cb h; rw [hGd.out.clab cb rfl] at h1; cases h1
                      have nx : ¬ F xb := fun h => by have h1 := hFK xb h; rw [hKx.out] at h1; cases h1
                      have gp : ∀ w', Fr F wx.drew w' → w'.cell? ⟨g, 2, none⟩ = some (.slice (some ⟨cb, 0, none⟩) n cc) := fun w' h => (h.cell (p := ⟨g, 2, none⟩) hGd.out.blk.lt ng).trans g2
                      have gk : ∀ w', Fr F wx.drew w' → w'.cell? ⟨cb, k', none⟩ = some (.slice A0 n0 c0) := fun w' h => (h.cell (p := ⟨cb, k', none⟩) hcbd.out nc).trans hck
                      have gx : ∀ w', Fr F wx.drew w' → w'.cell? ⟨xb, 7, none⟩ = some (.slice Ap pl pcap) := fun w' h => (h.cell (p := ⟨xb, 7, none⟩) hX.out.lt nx).trans x7
                      have sx : ∀ w', Fr F wx.drew w' → Bytes w' w'.heap.size (.slice Ap pl pcap) m.payload := fun w' h => ((hrx.out.fr (Fr.of_below (F := fun _ => False) (ab_drew wx)) (fun _ _ h => h)).fr h (fun i hi hx => by rw [hFK i hx] at hi; cases hi)).all
                      have hGe : Hid (GrpIn wx.drew K1 g s Lb Gs (some ⟨ab, 0, none⟩) n ac av PA pn pc pv (some ⟨cb, 0, none⟩) n cc cv) := hGd.out.upTo (ab_drew wx)
                      have hXe : Hid (Blk wx.drew xb 94 #[.int .i64 0, .int .i64 pk, .int .i64 m.kind, .int .i64 m.src, .int .i64 m.to, .int .i64 m.origin, .int .i64 m.number, .slice Ap pl pcap]) := hX.out
                      have hre : Hid (Rd wx.drew (fun y => K1 y = .no) Ap pl pcap m.payload) := hrx.out.fr (Fr.of_below (F := fun _ => False) (ab_drew wx)) (fun _ _ h => h)
                      have hwe : Hid (Went wm K wx.drew K1) := hwtx.out.up (ab_drew wx)
                      have hrow0e : Hid (wx.drew.ownsRow 0 9 1 (.slice A0 n0 c0) n0 (l.map strv)) := own_fr hrow0d.out (Fr.of_below (F := fun _ => False) (ab_drew wx)) (fun _ _ h => h)
                      have hFd := Lib.hid hF
                      clear g0 g2 hck x7 hc hGd hX hrx hwtx hrow0d hbox hlowx hGx hFK ng nc nx hF
                      refine wp_region_late (Fr F) (fun w => Fr.refl F w) (fun a b c h k => h.trans k (fun _ h => .inl h)) [19] (.one [0, 1, 2, 4, 5, 6, 7, 9, 12, 13] [3, 8, 10, 11, 14, 15] 16 (.one [] [] 17 (.one [] [18] 19 (.last [] [])))) (by kernel_rfl) (by kernel_rfl) (fun _ _ _ _ _ h => h) ?_
                      simp only [wpSchV, ordPick, Option.toList_some, List.cons_append, List.nil_append, List.getElem?_cons_succ, List.getElem?_cons_zero]
                      generalize wx.drew = wd at gp gk gx sx hGe hXe hre hwe hrow0e ⊢
                      iterate 10 (go_big_quiet_step (exact fun _ => rfl))
                      refine wpQuiet_nil ?_
                      refine wpq_load_one rfl 50 (.tmp 139) rfl ⟨g, 2, none⟩ rfl _ gp _ Try.underlying50 rfl ?_
                      simp only [Act.put, List.setIfInBounds_toArray, List.set_cons_succ, List.set_cons_zero]
                      refine wpq_load_one rfl 50 (.tmp 144) rfl ⟨g, 2, none⟩ rfl _ gp _ Try.underlying50 rfl ?_
                      simp only [Act.put, List.setIfInBounds_toArray, List.set_cons_succ, List.set_cons_zero]
                      iterate 1 (go_big_quiet_step (exact fun _ => rfl))
                      refine wpq_load_one rfl 53 (.tmp 147) rfl ⟨cb, k', none⟩ rfl _ gk _ Try.underlying53 rfl ?_
                      simp only [Act.put, List.setIfInBounds_toArray, List.set_cons_succ, List.set_cons_zero]
                      refine wpq_load_one rfl 33 (.tmp 150) rfl ⟨xb, 7, none⟩ rfl _ gx _ Try.underlying33 rfl ?_
                      simp only [Act.put, List.setIfInBounds_toArray, List.set_cons_succ, List.set_cons_zero]
                      refine wpq_string rfl 33 9 5 (.tmp 151) rfl Try.underlying33 Try.underlying5 Try.underlying9 _ _ _ rfl _ sx ?_
                      simp only [Act.put, List.setIfInBounds_toArray, List.set_cons_succ, List.set_cons_zero]
                      refine wpQuiet_nil ?_
                      clear gp gk gx sx
                      go_wp2_with fail
                      have ro := own_alc hrow0e.out (.cells #[.string ⟨m.payload.toArray⟩] 9)
                      have r1 := Row.new (n := 1) (sz := 1) wd 9 #[.string ⟨m.payload.toArray⟩] [.string ⟨m.payload.toArray⟩] rfl rfl (by decide)
                      have a1 : Ab wd (wd.alloc (.cells #[.string ⟨m.payload.toArray⟩] 9)) := (Below.refl _ _).alloc (Nat.le_refl _) _
                      refine And.intro (.inr (Fr.of_below a1)) (wpQuiet_nil (wpQuiet_nil ?_))
                      obtain ⟨w1, hw1⟩ : ∃ x, wd.alloc (.cells #[.string ⟨m.payload.toArray⟩] 9) = x := ⟨_, rfl⟩
                      rw [hw1] at ro r1 a1 ⊢
                      clear hw1
                      go_wp2_with (at_builtin; refine wpl_app rfl (.tmp 148) (.tmp 153) 53 rfl 0 9 _ 1 16 Try.underlying53 infoStr rfl (by decide) (by decide) _ rfl n0 (l.map strv) ro _ _ 1 1 rfl _ r1 ?h1 (by omega) (Nat.zero_le _) (n0 + 1) rfl ?h2)
                      case h1 => first | rfl | (intro u hu; simp at hu; subst hu; rfl)
                      case h2 =>
                        intro A2 c2 w2 ho2 hg2 hz2
                        have f2 : Hid (Fr (fun i => (Value.slice A0 n0 c0).ownBlock = some i) wd w2) := ((Fr.of_below (F := fun _ => False) a1).mono (F := fun i => (Value.slice A0 n0 c0).ownBlock = some i) (fun _ h => h.elim)).grown hg2 (fun k e => .inl e)
                        have f12 : Fr F w1 w2 := by rw [hFd.out]; exact (Fr.refl _ w1).grown hg2 (fun k e => .inl e)
                        have hcr2 := own_fr hGe.out.crow f2.out (fun b e hb => by have h1 := hlab0d.out b hb; rw [hGe.out.clab b e] at h1; cases h1)
                        obtain ⟨-, -, hgc2, hgf2, -⟩ := own_g hcr2
                        have c1 : w2.cell? ⟨cb, k', none⟩ = some (.slice A0 n0 c0) := by rw [hgc2 k' hkn]; exact hcvd.out
                        have fz := hgf2 k'
                        have a1d := Lib.hid a1
                        have ho2d := Lib.hid ho2
                        have hg2d := Lib.hid hg2
                        have hz2d := Lib.hid hz2
                        clear ro r1 ho2 hg2 hz2 hcr2 hgc2 hgf2 a1
                        go_wp2_with fail
                        refine And.intro (.inr f12) (wpQuiet_nil ?_)
                        clear f12
                        iterate 1 (go_big_quiet_step (exact fun _ => rfl))
                        refine wpQuiet_nil ?_
                        go_wp2_with fail
                        refine And.intro (.inl rfl) (wpQuiet_nil (wpQuiet_nil ?_))
                        obtain ⟨w3, hw3⟩ : ∃ x, w2.setCell ⟨cb, k', none⟩ (.slice A2 (n0 + 1) c2) = x := ⟨_, rfl⟩
                        rw [hw3]
                        have hwd := hGe.out.word hld.out hcvd.out hlab0d.out a1d.out hg2d.out ho2d.out hz2d.out hw3
                        obtain ⟨K3, hG3, hwt3⟩ := hwd
                        have hX3 := Lib.hid (hXe.out.fr hwt3.2 (fun h => h.1 hKx.out))
                        have hre3 : Hid (Rd w3 (fun y => K3 y = .no) Ap pl pcap m.payload) := ((hre.out.mono (T := fun i => K1 i = .no ∧ i < wd.heap.size) (fun i hi h => ⟨h, hi⟩)).fr hwt3.2 (fun i hi h => h.1 hi.1)).mono (fun i hi h => by show K3 i = .no; rw [hwt3.1 i h.2]; exact h.1)
                        have hw03 : Hid (Went wm K w3 K3) := hwe.out.trans hwt3
                        have hG3d := Lib.hid hG3
                        have h4e := h4d.out
                        clear hGe hXe hre hwe hrow0e hlab0d hcvd hld hcbd a1d ho2d hg2d hz2d hw3 hwt3 hG3 c1 fz f2
                        go_upto_region 27 with fail
                        obtain ⟨Lc, Gc, AB, an2, ac2, av2, PB, pn2, pc2, pv2, CB, cn2, cc2, cv2, hG⟩ := hG3d.out
                        obtain rfl : n = an2 := by rw [hG.anLen]; exact hfined.out.all.symm
                        have hask := hG.ask (k' : Int)
                        have hGd := Lib.hid hG
                        have g0 : w3.cell? ⟨g, 0, none⟩ = some (.slice AB n ac2) := (hG.blk.cell 0).trans rfl
                        clear hG hG3d
                        rcases hask with ⟨h3, -⟩ | ⟨h3, -, -⟩ | ⟨k2, ab2, hkk, -, rfl, hab, hcase⟩
                        · omega
                        · omega
                        · obtain rfl : k2 = k' := by omega
                          rcases hcase with ⟨-, h5, -⟩ | ⟨p2, -, h5, hc⟩
                          · have h5 : s.all[k2]? = some none := h5
                            rw [h4e] at h5; cases h5
                          · obtain rfl : p2 = p := by
                              have h5 : s.all[k2]? = some (some p2) := h5
                              rw [h4e] at h5; cases h5; rfl
                            have hp5 : Hid (({ s with casts := s.casts.set k2 (l ++ [m.payload]) } : Bra.Grp).all[k2]? = some (some p2)) := h4e
                            have hbq : Below w3.heap.size w3 w3.drew := ab_drew w3
                            have hGe : Hid (GrpIn w3.drew K3 g { s with casts := s.casts.set k2 (l ++ [m.payload]) } Lc Gc (some ⟨ab2, 0, none⟩) n ac2 av2 PB pn2 pc2 pv2 CB cn2 cc2 cv2) := hGd.out.upTo hbq
                            have gp : ∀ w', Ab w3.drew w' → w'.cell? ⟨g, 0, none⟩ = some (.slice (some ⟨ab2, 0, none⟩) n ac2) := fun w' h => ((Below.cell h (p := ⟨g, 0, none⟩) hGd.out.blk.lt).trans g0)
                            have gk : ∀ w', Ab w3.drew w' → w'.cell? ⟨ab2, k2, none⟩ = some (.pointer (some ⟨Gc k2, 0, none⟩)) := fun w' h => ((Below.cell h (p := ⟨ab2, k2, none⟩) hab).trans hc)
                            have gx : ∀ w', Ab w3.drew w' → w'.cell? ⟨xb, 7, none⟩ = some (.slice Ap pl pcap) := fun w' h => ((Below.cell h (p := ⟨xb, 7, none⟩) hX3.out.lt).trans ((hX3.out.cell 7).trans rfl))
                            have hre4 : Hid (Rd w3.drew (fun y => K3 y = .no) Ap pl pcap m.payload) := hre3.out.fr (Fr.of_below (F := fun _ => False) hbq) (fun _ _ h => h)
                            have hwe : Hid (Went wm K w3.drew K3) := hw03.out.up hbq
                            clear g0 hab hc hGd hbq hre3 hw03 hX3 h4e
                            refine wp_region_late Ab Ab.refl Ab.trans [11, 12] (.one [0, 1, 2, 3, 5, 8, 9] [4, 6, 7, 10] 11 (.one [] [] 12 (.last [] []))) (by kernel_rfl) (by kernel_rfl) (fun _ _ _ _ _ h => h) ?_
                            simp only [wpSchV, ordPick, Option.toList_some, List.cons_append, List.nil_append, List.getElem?_cons_succ, List.getElem?_cons_zero]
                            generalize w3.drew = wd at gp gk gx hGe hre4 hwe ⊢
                            iterate 7 (go_big_quiet_step (exact fun _ => rfl))
                            refine wpQuiet_nil ?_
                            refine wpq_load_one rfl 49 (.tmp 159) rfl ⟨g, 0, none⟩ rfl _ gp _ Try.underlying49 rfl ?_
                            simp only [Act.put, List.setIfInBounds_toArray, List.set_cons_succ, List.set_cons_zero]
                            iterate 1 (go_big_quiet_step (exact fun _ => rfl))
                            refine wpq_load_one rfl 24 (.tmp 162) rfl ⟨ab2, k2, none⟩ rfl _ gk _ Try.underlying24 rfl ?_
                            simp only [Act.put, List.setIfInBounds_toArray, List.set_cons_succ, List.set_cons_zero]
                            refine wpq_load_one rfl 33 (.tmp 165) rfl ⟨xb, 7, none⟩ rfl _ gx _ Try.underlying33 rfl ?_
                            simp only [Act.put, List.setIfInBounds_toArray, List.set_cons_succ, List.set_cons_zero]
                            refine wpQuiet_nil ?_
                            clear gp gk gx
                            go_wp2_with fail
                            have hp := hGe.out.proc k2 p2 hp5.out
                            have hpo := hfined.out.proc k2 p2 hp5.out
                            refine (bcast_any hp.1 (hre4.out.mono (fun i _ hi => Classical.byContradiction fun hx => by have := hp.2 i hx; rw [hi] at this; cases this)) hok.out.2.2.2.2.2.2.2 (by omega)).mono ?_
                            rintro e w5 ⟨A5, c5, rfl, hr5, hp6, hf5⟩
                            have hpn : Hid (p2.n = n) := hpo.1
                            obtain ⟨K5, hG5, hwt5, hr6⟩ := hGe.out.said hp5.out hr5 hp6 hf5
                            have hG5d := Lib.hid hG5
                            have hr6d := Lib.hid hr6
                            have hw05 : Hid (Went wm K w5 K5) := hwe.out.trans hwt5
                            clear hp hpo hr5 hp6 hf5 hG5 hwt5 hr6 hGe hre4 hwe
                            go_wp2_with fail
                            refine And.intro (.inl rfl) (wpQuiet_nil (wpQuiet_nil ?_))
                            go_wp2_with fail
                            refine (send_any hG5d.out hr6d.out (by
                              have h3 := hfined.out.pend
                              have h5 : (Bra.bcast p2 m.payload).2.length = p2.n := Bra.all_length _ _ _ _ _ _
                              rw [hpn.out] at h5
                              show s.pending.length + _ ≤ _
                              omega) (by rw [put_len]; show s.all.length ≤ _; rw [hfined.out.all]; omega)).mono ?_
                            rintro e w6 ⟨rfl, K6, hG6, hwt6⟩
                            have hG6d := Lib.hid hG6
                            have hw06 : Hid (Went wm K w6 K6) := hw05.out.trans hwt6
                            clear hG6 hwt6 hw05 hG5d hr6d
                            go_wp2_with fail
                            refine And.intro (.inl rfl) (wpQuiet_nil (wpQuiet_nil ?_))
                            go_wp2_with fail
                            go_roundw
                            case rel => exact ⟨j + 1, K6, _, by omega, by go_num, by rw [hnx.out, hact.out], by rw [← hact.out]; exact hfined.out.act h7 (by omega) _ _ ⟨hok.out.2.2.2.2.2.2.2, hok.out.2.2.2.2.2.2.1.2⟩, hG6d.out, hw06.out⟩
                            case measure => simp [intOf]; omega
                    · have hl3I : ¬ (n0 : Int) < 3 := by omega
                      have hact : Hid (s.act n (Bra.bads n liar) ⟨0, pk, m⟩ = s) := by
                        show _ = _
                        unfold Bra.Grp.act
                        rw [if_pos rfl]
                        dsimp only
                        rw [hkd.out]
                        unfold Bra.Grp.say
                        rw [h4]
                        show (if _ then _ else _) = _
                        rw [if_neg (by rw [hgl.out, hn0.out]; exact hl3)]
                      clear h4
                      go_wp2_with fail
                      go_roundw
                      case rel => exact ⟨j + 1, K1, s, by omega, by go_num, by rw [hnx.out, hact.out], hfined.out.more, hGx.out, hwtx.out⟩
                      case measure => simp [intOf]; omega
            · have k0b : (kd == 0) = false := by simpa using k0
              by_cases k12 : kd = 1 ∨ kd = 2
              · rcases k12 with hk1 | hk2
                · as_aux_lemma =>
                    have hkd1 : kd = 1 := hk1
                    subst hkd1
                    obtain ⟨Lb, Gs, AA, an, ac, av, PA, pn, pc, pv, CA, cn, cc, cv, hG⟩ := hGx.out
                    have g1 : wx.cell? ⟨g, 1, none⟩ = some (.slice PA pn pc) := (hG.blk.cell 1).trans rfl
                    have hpnl : Hid (s.pending.length = pn) := hG.pnLen.symm
                    have hple : pn ≤ 1000 := by have h3 := hfined.out.pend; rw [hpnl.out] at h3; omega
                    have hprow := Lib.hid hG.prow
                    have hGd := Lib.hid hG
                    clear hG
                    by_cases hp0 : pn = 0
                    · have hpB : ((pn : Int) == 0) = true := by simp [hp0]
                      have hact : Hid (s.act n (Bra.bads n liar) ⟨1, pk, m⟩ = s) := by
                        show _ = _
                        unfold Bra.Grp.act
                        rw [if_neg (show ¬ (1 : Int) = 0 by decide), if_pos (show (1 : Int) = 1 ∨ (1 : Int) = 2 by decide)]
                        dsimp only
                        rw [List.getElem?_eq_none (by rw [hpnl.out]; omega)]
                      clear hp0
                      go_wp2_with fail
                      go_roundw
                      case rel => exact ⟨j + 1, K1, s, by omega, by go_num, by rw [hnx.out, hact.out], hfined.out.more, hGx.out, hwtx.out⟩
                      case measure => simp [intOf]; omega
                    · have hpB : ((pn : Int) == 0) = false := by simpa using hp0
                      have hp1 : 1 ≤ pn := by omega
                      have hkn := Bra.modn_lt pk hp1
                      obtain ⟨k, hk⟩ : ∃ k, Bra.modn pk pn = k := ⟨_, rfl⟩
                      have hkd := Lib.hid hk
                      rw [hk] at hkn
                      clear hk hp0
                      have hknI : (k : Int) < (pn : Int) := by omega
                      go_upto_region 31 with fail
                      have hbq : Below wx.heap.size wx wx.drew := ab_drew wx
                      have gp : ∀ w', Ab wx.drew w' → w'.cell? ⟨g, 1, none⟩ = some (.slice PA pn pc) := fun w' h => ((Below.cell h (p := ⟨g, 1, none⟩) hGd.out.blk.lt).trans g1)
                      have gx : ∀ w', Ab wx.drew w' → w'.cell? ⟨xb, 1, none⟩ = some (.int .i64 pk) := fun w' h => ((Below.cell h (p := ⟨xb, 1, none⟩) hX.out.lt).trans x1)
                      have hGe : Hid (GrpIn wx.drew K1 g s Lb Gs AA an ac av PA pn pc pv CA cn cc cv) := hGd.out.upTo hbq
                      have hXe : Hid (Blk wx.drew xb 94 #[.int .i64 1, .int .i64 pk, .int .i64 m.kind, .int .i64 m.src, .int .i64 m.to, .int .i64 m.origin, .int .i64 m.number, .slice Ap pl pcap]) := hX.out
                      have hwe : Hid (Went wm K wx.drew K1) := hwtx.out.up hbq
                      clear g1 x0 x1 x7 hGd hX hrx hwtx hbox hlowx hGx hbq hprow
                      refine wp_region_late Ab Ab.refl Ab.trans [] (.one [0, 2, 3, 4] [1, 5, 6] 7 (.last [8] [])) (by kernel_rfl) (by kernel_rfl) (fun _ _ _ _ _ h => h) ?_
                      simp only [wpSchV, ordPick, Option.toList_some, List.cons_append, List.nil_append, List.getElem?_cons_succ, List.getElem?_cons_zero]
                      generalize wx.drew = wd at gp gx hGe hXe hwe ⊢
                      iterate 4 (go_big_quiet_step (exact fun _ => rfl))
                      refine wpQuiet_nil ?_
                      refine wpq_load_one rfl 3 (.tmp 178) rfl ⟨xb, 1, none⟩ rfl _ gx _ Try.underlying3 rfl ?_
                      simp only [Act.put, List.setIfInBounds_toArray, List.set_cons_succ, List.set_cons_zero]
                      refine wpq_load_one rfl 22 (.tmp 182) rfl ⟨g, 1, none⟩ rfl _ gp _ Try.underlying22 rfl ?_
                      simp only [Act.put, List.setIfInBounds_toArray, List.set_cons_succ, List.set_cons_zero]
                      iterate 1 (go_big_quiet_step (exact fun _ => rfl))
                      refine wpQuiet_nil ?_
                      clear gp gx
                      go_wp2_with fail
                      refine (mod_any wd pk hok.out.2.1 pn hp1 (by omega)).mono ?_
                      rw [hkd.out]
                      rintro e w' ⟨rfl, rfl⟩
                      go_wp2_with fail
                      refine And.intro (.inr (Ab.refl _)) ?_
                      dsimp only
                      iterate 1 (go_big_quiet_step (exact fun _ => rfl))
                      refine wpQuiet_nil (wpQuiet_nil ?_)
                      obtain ⟨m0, hm0⟩ : ∃ m0, s.pending[k]? = some m0 := ⟨_, List.getElem?_eq_getElem (by rw [hpnl.out]; exact hkn)⟩
                      have hm0d := Lib.hid hm0
                      obtain ⟨sv, hs, hgt⟩ := hGe.out.pks.get hm0
                      obtain ⟨pb, po, hPA, -, hpb, hpat⟩ := hGe.out.prow.row.at_ (by omega)
                      have hrg : wd.rangeAt pb (po + k * 6) [.int .i64 m0.kind, .int .i64 m0.src, .int .i64 m0.to, .int .i64 m0.origin, .int .i64 m0.number, sv] := fun i v hi => by
                        have hi6 : i < 6 := (List.getElem?_eq_some_iff.1 hi).1
                        rw [Nat.add_assoc, hpat (k * 6 + i) (by omega)]
                        exact hgt i v hi
                      obtain ⟨A0, n0, c0, rfl, hr0⟩ := hs
                      subst hPA
                      have hr0d := Lib.hid hr0
                      have g1 : wd.cell? ⟨g, 1, none⟩ = some (.slice (some ⟨pb, po, none⟩) pn pc) := (hGe.out.blk.cell 1).trans rfl
                      have hpf := Lib.hid (hfined.out.pkt m0 (List.mem_of_getElem? hm0))
                      clear hm0 hgt hpat hpb hr0
                      go_upto_region 33 with ((with_reducible refine wpList_load_mid rfl 35 (.tmp 191) rfl pb (po + k * 6) ?_ _ _ hrg Try.underlying35 rfl ?_ ?_); rfl; kernel_rfl)
                      obtain ⟨wy, hwy⟩ : ∃ x, wd.alloc (.cells #[.int .i64 m0.kind, .int .i64 m0.src, .int .i64 m0.to, .int .i64 m0.origin, .int .i64 m0.number, .slice A0 n0 c0] 35) = x := ⟨_, rfl⟩
                      have hY : Hid (Blk wy wd.heap.size 35 #[.int .i64 m0.kind, .int .i64 m0.src, .int .i64 m0.to, .int .i64 m0.origin, .int .i64 m0.number, .slice A0 n0 c0]) := by show Blk _ _ _ _; rw [← hwy]; exact Blk.new' rfl
                      have hby : Below wd.heap.size wd wy := by rw [← hwy]; exact (Below.refl _ _).alloc (Nat.le_refl _) _
                      rw [hwy]
                      have hGy : Hid (GrpIn wy K1 g s Lb Gs AA an ac av (some ⟨pb, po, none⟩) pn pc pv CA cn cc cv) := hGe.out.upTo hby
                      have x0 : wy.cell? ⟨xb, 0, none⟩ = some (.int .i64 1) := (hby.cell (p := ⟨xb, 0, none⟩) hXe.out.lt).trans ((hXe.out.cell 0).trans rfl)
                      have hwy2 : Hid (Went wm K wy K1) := hwe.out.up hby
                      have hry : Hid (Rd wy (fun y => K1 y = .no) A0 n0 c0 m0.payload) := hr0d.out.fr (Fr.of_below (F := fun _ => False) hby) (fun _ _ h => h)
                      have hKy : Hid (K1 wd.heap.size = .no) := Classical.byContradiction fun hz => by have := hGe.out.labs _ hz; omega
                      obtain ⟨yb, hyb⟩ : ∃ x, wd.heap.size = x := ⟨_, rfl⟩
                      rw [hyb] at hY hKy ⊢
                      clear hwy hby hGe hXe hwe hr0d g1 hrg hyb hKx
                      have hact : Hid (s.act n (Bra.bads n liar) ⟨1, pk, m⟩ = ({ s with pending := s.pending.eraseIdx k } : Bra.Grp).receive m0) := by
                        show _ = _
                        unfold Bra.Grp.act
                        rw [if_neg (show ¬ (1 : Int) = 0 by decide), if_pos (show (1 : Int) = 1 ∨ (1 : Int) = 2 by decide)]
                        dsimp only
                        rw [hpnl.out, hkd.out, hm0d.out]
                        rfl
                      go_upto_region 34 with fail
                      clear x0
                      obtain ⟨B, hB⟩ : ∃ B, wy.heap.size = B := ⟨_, rfl⟩
                      have hBd : Hid (wy.drew.heap.size = B) := hB
                      have hgB : Hid (g < B) := by show _ < _; rw [← hB]; exact hGy.out.blk.lt
                      have gp : ∀ w', Fr (fun i => B ≤ i) wy.drew w' → w'.cell? ⟨g, 1, none⟩ = some (.slice (some ⟨pb, po, none⟩) pn pc) := fun w' h => (h.cell (p := ⟨g, 1, none⟩) hGy.out.blk.lt (by have := hgB.out; show ¬ B ≤ g; omega)).trans ((hGy.out.blk.cell 1).trans rfl)
                      have hbq : Below wy.heap.size wy wy.drew := ab_drew wy
                      have hGe : Hid (GrpIn wy.drew K1 g s Lb Gs AA an ac av (some ⟨pb, po, none⟩) pn pc pv CA cn cc cv) := hGy.out.upTo hbq
                      have hYe : Hid (Blk wy.drew yb 35 #[.int .i64 m0.kind, .int .i64 m0.src, .int .i64 m0.to, .int .i64 m0.origin, .int .i64 m0.number, .slice A0 n0 c0]) := hY.out
                      have hre : Hid (Rd wy.drew (fun y => K1 y = .no) A0 n0 c0 m0.payload) := hry.out.fr (Fr.of_below (F := fun _ => False) hbq) (fun _ _ h => h)
                      have hwe : Hid (Went wm K wy.drew K1) := hwy2.out.up hbq
                      have hpc : pn ≤ pc := hGy.out.prow.le.1
                      clear hGy hY hry hwy2 hbq hB
                      refine wp_region_late (Fr fun i => B ≤ i) (fun w => Fr.refl _ w) (fun a b c h k => h.trans k (fun _ h => .inl h)) [19] (.one [0, 2, 3, 4, 6, 9, 10, 11, 13, 14] [5, 7, 12, 15] 1 (.one [] [] 8 (.one [] [] 16 (.one [17, 18] [] 19 (.last [] []))))) (by kernel_rfl) (by kernel_rfl) (fun _ _ _ _ _ h => h) ?_
                      simp only [wpSchV, ordPick, Option.toList_some, List.cons_append, List.nil_append, List.getElem?_cons_succ, List.getElem?_cons_zero]
                      generalize wy.drew = wd2 at gp hGe hYe hre hwe hBd ⊢
                      iterate 10 (go_big_quiet_step (exact fun _ => rfl))
                      refine wpQuiet_nil ?_
                      refine wpq_load_one rfl 22 (.tmp 200) rfl ⟨g, 1, none⟩ rfl _ gp _ Try.underlying22 rfl ?_
                      simp only [Act.put, List.setIfInBounds_toArray, List.set_cons_succ, List.set_cons_zero]
                      refine wpq_slice_toz rfl 22 (.tmp 201) (.tmp 202) rfl 35 6 Try.underlying22 (by kernel_rfl) _ pn pc rfl .i64 k rfl (by omega) ?_
                      simp only [Act.put, List.setIfInBounds_toArray, List.set_cons_succ, List.set_cons_zero]
                      refine wpq_load_one rfl 22 (.tmp 207) rfl ⟨g, 1, none⟩ rfl _ gp _ Try.underlying22 rfl ?_
                      simp only [Act.put, List.setIfInBounds_toArray, List.set_cons_succ, List.set_cons_zero]
                      refine wpq_slice_fromz rfl 22 (.tmp 208) (.tmp 210) rfl 35 6 Try.underlying22 (by kernel_rfl) _ pn pc rfl .i64 (k + 1) rfl (by omega) ?_
                      simp only [Act.put, List.setIfInBounds_toArray, List.set_cons_succ, List.set_cons_zero]
                      refine wpQuiet_nil ?_
                      clear gp
                      obtain ⟨PF, hPF⟩ : ∃ x, (if pc = k + 1 then some (⟨pb, po, none⟩ : Addr) else (some (⟨pb, po, none⟩ : Addr)).map (·.add ((k + 1) * 6))) = x := ⟨_, rfl⟩
                      have rt : Row wd2 (fun _ => True) 6 (some ⟨pb, po, none⟩) k pc (pv.take (k * 6)) := (hGe.out.prow.row.to (by omega)).mono (fun _ _ _ => trivial)
                      have rf : Row wd2 (fun i => i < wd2.heap.size) 6 PF (pn - (k + 1)) (pc - (k + 1)) (pv.drop ((k + 1) * 6)) := by rw [← hPF]; exact (hGe.out.prow.row.from_ (by omega)).mono (fun i hi _ => hi)
                      rw [hPF]
                      have hone := hGe.out.pks.one (fun u hu => by cases hu)
                      have hone1 : Hid (∀ u ∈ pv.take (k * 6), u.oneCell' = true) := fun u hu => hone u (List.mem_of_mem_take hu)
                      have hone2 : Hid (∀ u ∈ pv.drop ((k + 1) * 6), u.oneCell' = true) := fun u hu => hone u (List.mem_of_mem_drop hu)
                      clear hone hPF
                      go_wp2_with fail
                      obtain ⟨w1, hw1⟩ : ∃ x, wd2.alloc (.cells #[] 35) = x := ⟨_, rfl⟩
                      have a1 : Ab wd2 w1 := by rw [← hw1]; exact (Below.refl _ _).alloc (Nat.le_refl _) _
                      have ro : w1.ownsRow B 35 6 (.slice (some ⟨wd2.heap.size, 0, none⟩) 0 0) 0 [] := by rw [← hw1, ← hBd.out]; exact World.ownsRow_made wd2 #[] 0 (Nat.le_refl _) (Nat.zero_le _) rfl
                      have r1 := rt.up a1
                      have r2d := Lib.hid (rf.up a1)
                      have hBw1 : B ≤ w1.heap.size := by rw [← hBd.out]; exact a1.size
                      rw [hw1]
                      refine And.intro (.inr (Fr.of_below a1)) (wpQuiet_nil (wpQuiet_nil ?_))
                      have f1d : Hid (Fr (fun i => B ≤ i) wd2 w1) := Fr.of_below a1
                      rw [hBd.out] at ro ⊢
                      clear hw1 a1 rt rf
                      go_wp2_with (at_builtin; refine wpl_app rfl (.tmp 197) (.tmp 203) 22 rfl B 35 _ 6 64 Try.underlying22 infoPkt rfl (by decide) (by decide) _ rfl 0 [] ro _ _ k pc rfl _ r1 hone1.out (by omega) hBw1 k (Nat.zero_add k) ?h2)
                      case h2 =>
                        intro A2 c2 w2 ho2 hg2 hz2
                        have f12 : Fr (fun i => B ≤ i) w1 w2 := (Fr.refl _ w1).grown hg2 (fun x e => .inl (by have h9 : B = x := (by simpa [Value.ownBlock] using e); omega))
                        have hBw2 : B ≤ w2.heap.size := Nat.le_trans hBw1 f12.size
                        have r2 := r2d.out.fr f12 (fun i hi hx => by rw [hBd.out] at hi; omega)
                        have f2d : Hid (Fr (fun i => B ≤ i) wd2 w2) := f1d.out.trans f12 (fun _ h => .inl h)
                        clear ro r1 hg2 hz2 r2d f1d hBw1
                        go_wp2_with fail
                        refine And.intro (.inr f12) (wpQuiet_nil (wpQuiet_nil ?_))
                        clear f12
                        go_wp2_with (at_builtin; refine wpl_app rfl (.tmp 204) (.tmp 211) 22 rfl B 35 _ 6 64 Try.underlying22 infoPkt rfl (by decide) (by decide) _ rfl k _ ho2 _ _ (pn - (k + 1)) (pc - (k + 1)) rfl _ r2 hone2.out (by omega) hBw2 (pn - 1) (by omega) ?h2)
                        case h2 =>
                          intro A3 c3 w3 ho3 hg3 hz3
                          have hlo2 := own_lt ho2
                          have f23 : Fr (fun i => B ≤ i) w2 w3 := (Fr.refl _ w2).grown hg3 (fun x e => .inl (hlo2 x e).1)
                          have f3d : Hid (Fr (fun i => B ≤ i) wd2 w3) := f2d.out.trans f23 (fun _ h => .inl h)
                          have ho3d := Lib.hid ho3
                          have hgb := hGe.out.blk.fr f3d.out (by have := hgB.out; omega)
                          have c1 : w3.cell? ⟨g, 1, none⟩ = some (.slice (some ⟨pb, po, none⟩) pn pc) := (hgb.cell 1).trans rfl
                          have fz := hgb.frozen 1
                          clear ho2 ho3 hg3 hz3 hlo2 hBw2 r2 f2d hone1 hone2
                          go_wp2_with fail
                          refine And.intro (.inr f23) ?_
                          clear f23
                          dsimp only
                          iterate 2 (go_big_quiet_step (exact fun _ => rfl))
                          refine wpQuiet_nil (wpQuiet_nil ?_)
                          go_wp2_with fail
                          refine And.intro (.inl rfl) (wpQuiet_nil (wpQuiet_nil ?_))
                          obtain ⟨w4, hw4⟩ : ∃ x, w3.setCell ⟨g, 1, none⟩ (.slice A3 (pn - 1) c3) = x := ⟨_, rfl⟩
                          rw [hw4]
                          have f34 : Fr (fun i => i = g) w3 w4 := by rw [← hw4]; exact (Fr.refl (fun i => i = g) w3).setCell (p := ⟨g, 1, none⟩) (.inl rfl) _
                          have hblk4 := hgb.set_ 1 (.slice A3 (pn - 1) c3)
                          rw [hw4] at hblk4
                          have hlo3 := own_lt ho3d.out
                          obtain ⟨K4, hG4, -, hwt4⟩ := hGe.out.pend (w' := w4) (ms := s.pending.eraseIdx k) ((f3d.out.mono (F := fun i => (Value.slice (some ⟨pb, po, none⟩) pn pc).ownBlock = some i ∨ i = g) (fun i h => .inr (by rw [hBd.out]; exact h))).trans f34 (fun _ h => .inl (.inr h))) hblk4
                            (OwnO.of (own_fr ho3d.out f34 (fun b e h => by have h5 := (hlo3 b e).1; have h6 := hgB.out; omega))) (fun b e => .inr (by rw [hBd.out]; exact (hlo3 b e).1)) (hGe.out.pks.erase k)
                          have hY4 := Lib.hid (hYe.out.fr hwt4.2 (fun h => h.1 hKy.out))
                          have hre4 : Hid (Rd w4 (fun y => K4 y = .no) A0 n0 c0 m0.payload) := ((hre.out.mono (T := fun i => K1 i = .no ∧ i < wd2.heap.size) (fun i hi h => ⟨h, hi⟩)).fr hwt4.2 (fun i hi h => h.1 hi.1)).mono (fun i hi h => by show K4 i = .no; rw [hwt4.1 i h.2]; exact h.1)
                          have hw04 : Hid (Went wm K w4 K4) := hwe.out.trans hwt4
                          have hG4d := Lib.hid hG4
                          have hpl4 : Hid ((s.pending.eraseIdx k).length ≤ 1000) := by
                            have h5 := List.length_eraseIdx_le s.pending k
                            have h6 := hpnl.out
                            show _ ≤ _
                            omega
                          clear hw4 f34 hblk4 hlo3 hG4 hwt4 hGe hYe hre hwe hgb c1 fz f3d ho3d hm0d
                          go_upto_region 35 with fail
                          have hYd := hY4.out
                          go_wp2_with ((with_reducible refine wpl_load_part rfl 35 (.tmp 16) rfl yb 0 ?_ 35 _ hYd #[.int .i64 m0.kind, .int .i64 m0.src, .int .i64 m0.to, .int .i64 m0.origin, .int .i64 m0.number, .slice A0 n0 c0] rfl _ Try.underlying35 rfl (by kernel_rfl) ?_); rfl)
                          clear hYd
                          refine (receive_any hG4d.out.at_ m0 hre4.out hpf.out.1 hpf.out.2 (fun i p hp => by have h3 := hfined.out.proc i p hp; omega) (by have h5 := hpl4.out; show (s.pending.eraseIdx k).length + 64 ≤ _; omega) (by show s.all.length ≤ _; rw [hfined.out.all]; omega)).mono ?_
                          rintro e w6 ⟨rfl, K6, hG6, hwt6⟩
                          have hG6d := Lib.hid hG6
                          have hw06 : Hid (Went wm K w6 K6) := hw04.out.trans hwt6
                          clear hG6 hwt6 hw04 hG4d hre4 hY4
                          go_wp2_with fail
                          go_roundw
                          case rel => exact ⟨j + 1, K6, _, by omega, by go_num, by rw [hnx.out, hact.out], by rw [← hact.out]; exact hfined.out.act h7 (by omega) _ _ ⟨hok.out.2.2.2.2.2.2.2, hok.out.2.2.2.2.2.2.1.2⟩, hG6d.out, hw06.out⟩
                          case measure => simp [intOf]; omega
                · as_aux_lemma =>
                    have hkd1 : kd = 2 := hk2
                    subst hkd1
                    obtain ⟨Lb, Gs, AA, an, ac, av, PA, pn, pc, pv, CA, cn, cc, cv, hG⟩ := hGx.out
                    have g1 : wx.cell? ⟨g, 1, none⟩ = some (.slice PA pn pc) := (hG.blk.cell 1).trans rfl
                    have hpnl : Hid (s.pending.length = pn) := hG.pnLen.symm
                    have hple : pn ≤ 1000 := by have h3 := hfined.out.pend; rw [hpnl.out] at h3; omega
                    have hprow := Lib.hid hG.prow
                    have hGd := Lib.hid hG
                    clear hG
                    by_cases hp0 : pn = 0
                    · have hpB : ((pn : Int) == 0) = true := by simp [hp0]
                      have hact : Hid (s.act n (Bra.bads n liar) ⟨2, pk, m⟩ = s) := by
                        show _ = _
                        unfold Bra.Grp.act
                        rw [if_neg (show ¬ (2 : Int) = 0 by decide), if_pos (show (2 : Int) = 1 ∨ (2 : Int) = 2 by decide)]
                        dsimp only
                        rw [List.getElem?_eq_none (by rw [hpnl.out]; omega)]
                      clear hp0
                      go_wp2_with fail
                      go_roundw
                      case rel => exact ⟨j + 1, K1, s, by omega, by go_num, by rw [hnx.out, hact.out], hfined.out.more, hGx.out, hwtx.out⟩
                      case measure => simp [intOf]; omega
                    · have hpB : ((pn : Int) == 0) = false := by simpa using hp0
                      have hp1 : 1 ≤ pn := by omega
                      have hkn := Bra.modn_lt pk hp1
                      obtain ⟨k, hk⟩ : ∃ k, Bra.modn pk pn = k := ⟨_, rfl⟩
                      have hkd := Lib.hid hk
                      rw [hk] at hkn
                      clear hk hp0
                      have hknI : (k : Int) < (pn : Int) := by omega
                      go_upto_region 31 with fail
                      have hbq : Below wx.heap.size wx wx.drew := ab_drew wx
                      have gp : ∀ w', Ab wx.drew w' → w'.cell? ⟨g, 1, none⟩ = some (.slice PA pn pc) := fun w' h => ((Below.cell h (p := ⟨g, 1, none⟩) hGd.out.blk.lt).trans g1)
                      have gx : ∀ w', Ab wx.drew w' → w'.cell? ⟨xb, 1, none⟩ = some (.int .i64 pk) := fun w' h => ((Below.cell h (p := ⟨xb, 1, none⟩) hX.out.lt).trans x1)
                      have hGe : Hid (GrpIn wx.drew K1 g s Lb Gs AA an ac av PA pn pc pv CA cn cc cv) := hGd.out.upTo hbq
                      have hXe : Hid (Blk wx.drew xb 94 #[.int .i64 2, .int .i64 pk, .int .i64 m.kind, .int .i64 m.src, .int .i64 m.to, .int .i64 m.origin, .int .i64 m.number, .slice Ap pl pcap]) := hX.out
                      have hwe : Hid (Went wm K wx.drew K1) := hwtx.out.up hbq
                      clear g1 x0 x1 x7 hGd hX hrx hwtx hbox hlowx hGx hbq hprow
                      refine wp_region_late Ab Ab.refl Ab.trans [] (.one [0, 2, 3, 4] [1, 5, 6] 7 (.last [8] [])) (by kernel_rfl) (by kernel_rfl) (fun _ _ _ _ _ h => h) ?_
                      simp only [wpSchV, ordPick, Option.toList_some, List.cons_append, List.nil_append, List.getElem?_cons_succ, List.getElem?_cons_zero]
                      generalize wx.drew = wd at gp gx hGe hXe hwe ⊢
                      iterate 4 (go_big_quiet_step (exact fun _ => rfl))
                      refine wpQuiet_nil ?_
                      refine wpq_load_one rfl 3 (.tmp 178) rfl ⟨xb, 1, none⟩ rfl _ gx _ Try.underlying3 rfl ?_
                      simp only [Act.put, List.setIfInBounds_toArray, List.set_cons_succ, List.set_cons_zero]
                      refine wpq_load_one rfl 22 (.tmp 182) rfl ⟨g, 1, none⟩ rfl _ gp _ Try.underlying22 rfl ?_
                      simp only [Act.put, List.setIfInBounds_toArray, List.set_cons_succ, List.set_cons_zero]
                      iterate 1 (go_big_quiet_step (exact fun _ => rfl))
                      refine wpQuiet_nil ?_
                      clear gp gx
                      go_wp2_with fail
                      refine (mod_any wd pk hok.out.2.1 pn hp1 (by omega)).mono ?_
                      rw [hkd.out]
                      rintro e w' ⟨rfl, rfl⟩
                      go_wp2_with fail
                      refine And.intro (.inr (Ab.refl _)) ?_
                      dsimp only
                      iterate 1 (go_big_quiet_step (exact fun _ => rfl))
                      refine wpQuiet_nil (wpQuiet_nil ?_)
                      obtain ⟨m0, hm0⟩ : ∃ m0, s.pending[k]? = some m0 := ⟨_, List.getElem?_eq_getElem (by rw [hpnl.out]; exact hkn)⟩
                      have hm0d := Lib.hid hm0
                      obtain ⟨sv, hs, hgt⟩ := hGe.out.pks.get hm0
                      obtain ⟨pb, po, hPA, -, hpb, hpat⟩ := hGe.out.prow.row.at_ (by omega)
                      have hrg : wd.rangeAt pb (po + k * 6) [.int .i64 m0.kind, .int .i64 m0.src, .int .i64 m0.to, .int .i64 m0.origin, .int .i64 m0.number, sv] := fun i v hi => by
                        have hi6 : i < 6 := (List.getElem?_eq_some_iff.1 hi).1
                        rw [Nat.add_assoc, hpat (k * 6 + i) (by omega)]
                        exact hgt i v hi
                      obtain ⟨A0, n0, c0, rfl, hr0⟩ := hs
                      subst hPA
                      have hr0d := Lib.hid hr0
                      have g1 : wd.cell? ⟨g, 1, none⟩ = some (.slice (some ⟨pb, po, none⟩) pn pc) := (hGe.out.blk.cell 1).trans rfl
                      have hpf := Lib.hid (hfined.out.pkt m0 (List.mem_of_getElem? hm0))
                      clear hm0 hgt hpat hpb hr0
                      go_upto_region 33 with ((with_reducible refine wpList_load_mid rfl 35 (.tmp 191) rfl pb (po + k * 6) ?_ _ _ hrg Try.underlying35 rfl ?_ ?_); rfl; kernel_rfl)
                      obtain ⟨wy, hwy⟩ : ∃ x, wd.alloc (.cells #[.int .i64 m0.kind, .int .i64 m0.src, .int .i64 m0.to, .int .i64 m0.origin, .int .i64 m0.number, .slice A0 n0 c0] 35) = x := ⟨_, rfl⟩
                      have hY : Hid (Blk wy wd.heap.size 35 #[.int .i64 m0.kind, .int .i64 m0.src, .int .i64 m0.to, .int .i64 m0.origin, .int .i64 m0.number, .slice A0 n0 c0]) := by show Blk _ _ _ _; rw [← hwy]; exact Blk.new' rfl
                      have hby : Below wd.heap.size wd wy := by rw [← hwy]; exact (Below.refl _ _).alloc (Nat.le_refl _) _
                      rw [hwy]
                      have hGy : Hid (GrpIn wy K1 g s Lb Gs AA an ac av (some ⟨pb, po, none⟩) pn pc pv CA cn cc cv) := hGe.out.upTo hby
                      have x0 : wy.cell? ⟨xb, 0, none⟩ = some (.int .i64 2) := (hby.cell (p := ⟨xb, 0, none⟩) hXe.out.lt).trans ((hXe.out.cell 0).trans rfl)
                      have hwy2 : Hid (Went wm K wy K1) := hwe.out.up hby
                      have hry : Hid (Rd wy (fun y => K1 y = .no) A0 n0 c0 m0.payload) := hr0d.out.fr (Fr.of_below (F := fun _ => False) hby) (fun _ _ h => h)
                      have hKy : Hid (K1 wd.heap.size = .no) := Classical.byContradiction fun hz => by have := hGe.out.labs _ hz; omega
                      obtain ⟨yb, hyb⟩ : ∃ x, wd.heap.size = x := ⟨_, rfl⟩
                      rw [hyb] at hY hKy ⊢
                      clear hwy hby hGe hXe hwe hr0d g1 hrg hyb hKx
                      have hact : Hid (s.act n (Bra.bads n liar) ⟨2, pk, m⟩ = s.receive m0) := by
                        show _ = _
                        unfold Bra.Grp.act
                        rw [if_neg (show ¬ (2 : Int) = 0 by decide), if_pos (show (2 : Int) = 1 ∨ (2 : Int) = 2 by decide)]
                        dsimp only
                        rw [hpnl.out, hkd.out, hm0d.out]
                        rfl
                      go_upto_region 35 with fail
                      clear x0
                      have hYd := hY.out
                      go_wp2_with ((with_reducible refine wpl_load_part rfl 35 (.tmp 16) rfl yb 0 ?_ 35 _ hYd #[.int .i64 m0.kind, .int .i64 m0.src, .int .i64 m0.to, .int .i64 m0.origin, .int .i64 m0.number, .slice A0 n0 c0] rfl _ Try.underlying35 rfl (by kernel_rfl) ?_); rfl)
                      clear hYd
                      refine (receive_any hGy.out.at_ m0 hry.out hpf.out.1 hpf.out.2 (fun i p hp => by have h3 := hfined.out.proc i p hp; omega) (by rw [hpnl.out]; omega) (by rw [hfined.out.all]; omega)).mono ?_
                      rintro e w6 ⟨rfl, K6, hG6, hwt6⟩
                      have hG6d := Lib.hid hG6
                      have hw06 : Hid (Went wm K w6 K6) := hwy2.out.trans hwt6
                      clear hG6 hwt6 hwy2 hGy hry hY
                      go_wp2_with fail
                      go_roundw
                      case rel => exact ⟨j + 1, K6, _, by omega, by go_num, by rw [hnx.out, hact.out], by rw [← hact.out]; exact hfined.out.act h7 (by omega) _ _ ⟨hok.out.2.2.2.2.2.2.2, hok.out.2.2.2.2.2.2.1.2⟩, hG6d.out, hw06.out⟩
                      case measure => simp [intOf]; omega
              · by_cases k34 : kd = 3 ∨ kd = 4
                · rcases k34 with hk3 | hk4
                  · as_aux_lemma =>
                      have hkd1 : kd = 3 := hk3
                      subst hkd1
                      obtain ⟨Lb, Gs, AA, an, ac, av, PA, pn, pc, pv, CA, cn, cc, cv, hG⟩ := hGx.out
                      have hGd := Lib.hid hG
                      clear hG
                      by_cases hb0 : bn = 0
                      · have hbB : ((bn : Int) == 0) = true := by simp [hb0]
                        have hact : Hid (s.act n (Bra.bads n liar) ⟨3, pk, m⟩ = s) := by
                          show _ = _
                          unfold Bra.Grp.act
                          rw [if_neg (show ¬ (3 : Int) = 0 by decide), if_neg (show ¬ ((3 : Int) = 1 ∨ (3 : Int) = 2) by decide), if_pos (show (3 : Int) = 3 ∨ (3 : Int) = 4 by decide)]
                          dsimp only
                          rw [List.getElem?_eq_none (by rw [← hbnd.out]; omega)]
                        clear hb0
                        go_wp2_with fail
                        go_roundw
                        case rel => exact ⟨j + 1, K1, s, by omega, by go_num, by rw [hnx.out, hact.out], hfined.out.more, hGx.out, hwtx.out⟩
                        case measure => simp [intOf]; omega
                      · have hbB : ((bn : Int) == 0) = false := by simpa using hb0
                        have hb1 : 1 ≤ bn := by omega
                        have hkn := Bra.modn_lt pk hb1
                        obtain ⟨k, hk⟩ : ∃ k, Bra.modn pk bn = k := ⟨_, rfl⟩
                        have hkd := Lib.hid hk
                        rw [hk] at hkn
                        clear hk hb0
                        have hknI : (k : Int) < (bn : Int) := by omega
                        obtain ⟨bk, hbk⟩ : ∃ bk, (Bra.bads n liar)[k]? = some bk := ⟨_, List.getElem?_eq_getElem (by rw [← hbnd.out]; exact hkn)⟩
                        obtain ⟨bb, bo, hBA, hBS, hbb, hbat⟩ := (own_row hbox.out).at_ (by omega)
                        have hbc : Hid (wx.cell? ⟨bb, bo + k, none⟩ = some (.int .i64 (bk : Int))) := by
                          show _ = _
                          rw [hbat k (by omega), List.getElem?_map, hbk]; rfl
                        have hbo0 : bo = 0 := by
                          rcases hbox.out.2 with ⟨he, _⟩ | ⟨g', cap, cur, he, _⟩
                          · cases he; cases hBA
                          · cases he; cases hBA; rfl
                        subst hBA
                        have hbbd := Lib.hid hbb
                        obtain ⟨mt, hmt⟩ : ∃ mt, Bra.modn m.to n = mt := ⟨_, rfl⟩
                        have hmtd := Lib.hid hmt
                        have hact : Hid (s.act n (Bra.bads n liar) ⟨3, pk, m⟩ = s.receive ⟨m.kind, (bk : Int), (mt : Int), m.origin, m.number, m.payload⟩) := by
                          show _ = _
                          unfold Bra.Grp.act
                          rw [if_neg (show ¬ (3 : Int) = 0 by decide), if_neg (show ¬ ((3 : Int) = 1 ∨ (3 : Int) = 2) by decide), if_pos (show (3 : Int) = 3 ∨ (3 : Int) = 4 by decide)]
                          dsimp only
                          rw [← hbnd.out, hkd.out, hbk, hmt]
                          rfl
                        clear hbb hbk hbat hBS hmt hlowx hbox
                        have hXd := hX.out
                        go_upto_region 40 with ((with_reducible refine wpl_load_part rfl 35 (.tmp 224) rfl xb 2 ?_ 94 _ hXd #[.int .i64 m.kind, .int .i64 m.src, .int .i64 m.to, .int .i64 m.origin, .int .i64 m.number, .slice Ap pl pcap] rfl _ Try.underlying35 rfl (by kernel_rfl) ?_); rfl)
                        clear hXd x7
                        obtain ⟨wy, hwy⟩ : ∃ x, wx.alloc (.cells #[.int .i64 m.kind, .int .i64 m.src, .int .i64 m.to, .int .i64 m.origin, .int .i64 m.number, .slice Ap pl pcap] 35) = x := ⟨_, rfl⟩
                        have hY : Hid (Blk wy wx.heap.size 35 #[.int .i64 m.kind, .int .i64 m.src, .int .i64 m.to, .int .i64 m.origin, .int .i64 m.number, .slice Ap pl pcap]) := by show Blk _ _ _ _; rw [← hwy]; exact Blk.new' rfl
                        have hby : Hid (Below wx.heap.size wx wy) := by show Below _ _ _; rw [← hwy]; exact (Below.refl _ _).alloc (Nat.le_refl _) _
                        rw [hwy]
                        obtain ⟨Z, hZ⟩ : ∃ Z, wx.heap.size = Z := ⟨_, rfl⟩
                        have hZd := Lib.hid hZ
                        rw [hZ] at hY ⊢
                        clear hwy hZ x0 x1
                        have x1 : wy.cell? ⟨xb, 1, none⟩ = some (.int .i64 pk) := (hby.out.cell (p := ⟨xb, 1, none⟩) hX.out.lt).trans ((hX.out.cell 1).trans rfl)
                        subst hbo0
                        have b1 : wy.cell? ⟨bb, k, none⟩ = some (.int .i64 (bk : Int)) := (hby.out.cell (p := ⟨bb, k, none⟩) hbbd.out).trans (by have h3 := hbc.out; rw [Nat.zero_add] at h3; exact h3)
                        have y1 : wy.cell? ⟨Z, 1, none⟩ = some (.int .i64 m.src) := (hY.out.cell 1).trans rfl
                        have yf := hY.out.frozen 1
                        clear hbc hbbd
                        go_wp2_with fail
                        refine (mod_any wy pk hok.out.2.1 bn hb1 (by omega)).mono ?_
                        rw [hkd.out]
                        rintro e w' ⟨rfl, rfl⟩
                        go_upto_region 41 with fail
                        obtain ⟨w4, hw4⟩ : ∃ x, wy.setCell ⟨Z, 1, none⟩ (.int .i64 (bk : Int)) = x := ⟨_, rfl⟩
                        have hY4 := hY.out.set_ 1 (.int .i64 (bk : Int))
                        rw [hw4] at hY4 ⊢
                        have hY4d : Hid (Blk w4 Z 35 #[.int .i64 m.kind, .int .i64 (bk : Int), .int .i64 m.to, .int .i64 m.origin, .int .i64 m.number, .slice Ap pl pcap]) := hY4
                        have hb4 : Hid (Below wx.heap.size wx w4) := by show Below _ _ _; rw [← hw4]; exact hby.out.setCell (by rw [hZd.out]; exact Nat.le_refl _) _
                        clear y1 yf hY4 hw4 hY hby x1 b1
                        have y2 : w4.cell? ⟨Z, 2, none⟩ = some (.int .i64 m.to) := (hY4d.out.cell 2).trans rfl
                        have yf := hY4d.out.frozen 2
                        go_wp2_with fail
                        refine (mod_any w4 m.to hok.out.2.2.2.2.1 n h1 (by omega)).mono ?_
                        rw [hmtd.out]
                        rintro e w' ⟨rfl, rfl⟩
                        go_upto_region 42 with fail
                        obtain ⟨w5, hw5⟩ : ∃ x, w4.setCell ⟨Z, 2, none⟩ (.int .i64 (mt : Int)) = x := ⟨_, rfl⟩
                        have hY5 := hY4d.out.set_ 2 (.int .i64 (mt : Int))
                        rw [hw5] at hY5 ⊢
                        have hY5d : Hid (Blk w5 Z 35 #[.int .i64 m.kind, .int .i64 (bk : Int), .int .i64 (mt : Int), .int .i64 m.origin, .int .i64 m.number, .slice Ap pl pcap]) := hY5
                        have hb5 : Hid (Below wx.heap.size wx w5) := by show Below _ _ _; rw [← hw5]; exact hb4.out.setCell (by rw [hZd.out]; exact Nat.le_refl _) _
                        clear y2 yf hY5 hw5 hY4d hb4
                        have x0 : w5.cell? ⟨xb, 0, none⟩ = some (.int .i64 3) := (hb5.out.cell (p := ⟨xb, 0, none⟩) hX.out.lt).trans ((hX.out.cell 0).trans rfl)
                        have hG5 : Hid (GrpIn w5 K1 g s Lb Gs AA an ac av PA pn pc pv CA cn cc cv) := hGd.out.upTo hb5.out
                        have hr5 : Hid (Rd w5 (fun y => K1 y = .no) Ap pl pcap m.payload) := hrx.out.fr (Fr.of_below (F := fun _ => False) hb5.out) (fun _ _ h => h)
                        have hw5 : Hid (Went wm K w5 K1) := hwtx.out.up hb5.out
                        clear hGd hrx hwtx hb5 hX hGx hZd
                        go_upto_region 43 with fail
                        clear x0
                        have hYd := hY5d.out
                        go_wp2_with ((with_reducible refine wpl_load_part rfl 35 (.tmp 17) rfl Z 0 ?_ 35 _ hYd #[.int .i64 m.kind, .int .i64 (bk : Int), .int .i64 (mt : Int), .int .i64 m.origin, .int .i64 m.number, .slice Ap pl pcap] rfl _ Try.underlying35 rfl (by kernel_rfl) ?_); rfl)
                        clear hYd
                        refine (receive_any hG5.out.at_ ⟨m.kind, (bk : Int), (mt : Int), m.origin, m.number, m.payload⟩ hr5.out hok.out.2.2.2.2.2.2.2 hok.out.2.2.2.2.2.2.1.2 (fun i p hp => by have h3 := hfined.out.proc i p hp; omega) (by have h3 := hfined.out.pend; omega) (by rw [hfined.out.all]; omega)).mono ?_
                        rintro e w6 ⟨rfl, K6, hG6, hwt6⟩
                        have hG6d := Lib.hid hG6
                        have hw06 : Hid (Went wm K w6 K6) := hw5.out.trans hwt6
                        clear hG6 hwt6 hw5 hG5 hr5 hY5d
                        go_wp2_with fail
                        go_roundw
                        case rel => exact ⟨j + 1, K6, _, by omega, by go_num, by rw [hnx.out, hact.out], by rw [← hact.out]; exact hfined.out.act h7 (by omega) _ _ ⟨hok.out.2.2.2.2.2.2.2, hok.out.2.2.2.2.2.2.1.2⟩, hG6d.out, hw06.out⟩
                        case measure => simp [intOf]; omega
                  · have hkd1 : kd = 4 := hk4
                    subst hkd1
                    obtain ⟨Lb, Gs, AA, an, ac, av, PA, pn, pc, pv, CA, cn, cc, cv, hG⟩ := hGx.out
                    have hGd := Lib.hid hG
                    clear hG
                    by_cases hb0 : bn = 0
                    · have hbB : ((bn : Int) == 0) = true := by simp [hb0]
                      have hact : Hid (s.act n (Bra.bads n liar) ⟨4, pk, m⟩ = s) := by
                        show _ = _
                        unfold Bra.Grp.act
                        rw [if_neg (show ¬ (4 : Int) = 0 by decide), if_neg (show ¬ ((4 : Int) = 1 ∨ (4 : Int) = 2) by decide), if_pos (show (4 : Int) = 3 ∨ (4 : Int) = 4 by decide)]
                        dsimp only
                        rw [List.getElem?_eq_none (by rw [← hbnd.out]; omega)]
                      clear hb0
                      go_wp2_with fail
                      go_roundw
                      case rel => exact ⟨j + 1, K1, s, by omega, by go_num, by rw [hnx.out, hact.out], hfined.out.more, hGx.out, hwtx.out⟩
                      case measure => simp [intOf]; omega
                    · have hbB : ((bn : Int) == 0) = false := by simpa using hb0
                      have hb1 : 1 ≤ bn := by omega
                      have hkn := Bra.modn_lt pk hb1
                      obtain ⟨k, hk⟩ : ∃ k, Bra.modn pk bn = k := ⟨_, rfl⟩
                      have hkd := Lib.hid hk
                      rw [hk] at hkn
                      clear hk hb0
                      have hknI : (k : Int) < (bn : Int) := by omega
                      obtain ⟨bk, hbk⟩ : ∃ bk, (Bra.bads n liar)[k]? = some bk := ⟨_, List.getElem?_eq_getElem (by rw [← hbnd.out]; exact hkn)⟩
                      obtain ⟨bb, bo, hBA, hBS, hbb, hbat⟩ := (own_row hbox.out).at_ (by omega)
                      have hbc : Hid (wx.cell? ⟨bb, bo + k, none⟩ = some (.int .i64 (bk : Int))) := by
                        show _ = _
                        rw [hbat k (by omega), List.getElem?_map, hbk]; rfl
                      have hbo0 : bo = 0 := by
                        rcases hbox.out.2 with ⟨he, _⟩ | ⟨g', cap, cur, he, _⟩
                        · cases he; cases hBA
                        · cases he; cases hBA; rfl
                      subst hBA
                      have hbbd := Lib.hid hbb
                      obtain ⟨mt, hmt⟩ : ∃ mt, Bra.modn m.to n = mt := ⟨_, rfl⟩
                      have hmtd := Lib.hid hmt
                      have hact : Hid (s.act n (Bra.bads n liar) ⟨4, pk, m⟩ = s.send [⟨m.kind, (bk : Int), (mt : Int), m.origin, m.number, m.payload⟩]) := by
                        show _ = _
                        unfold Bra.Grp.act
                        rw [if_neg (show ¬ (4 : Int) = 0 by decide), if_neg (show ¬ ((4 : Int) = 1 ∨ (4 : Int) = 2) by decide), if_pos (show (4 : Int) = 3 ∨ (4 : Int) = 4 by decide)]
                        dsimp only
                        rw [← hbnd.out, hkd.out, hbk, hmt]
                        rfl
                      clear hbb hbk hbat hBS hmt hlowx hbox
                      have hXd := hX.out
                      go_upto_region 40 with ((with_reducible refine wpl_load_part rfl 35 (.tmp 224) rfl xb 2 ?_ 94 _ hXd #[.int .i64 m.kind, .int .i64 m.src, .int .i64 m.to, .int .i64 m.origin, .int .i64 m.number, .slice Ap pl pcap] rfl _ Try.underlying35 rfl (by kernel_rfl) ?_); rfl)
                      clear hXd x7
                      obtain ⟨wy, hwy⟩ : ∃ x, wx.alloc (.cells #[.int .i64 m.kind, .int .i64 m.src, .int .i64 m.to, .int .i64 m.origin, .int .i64 m.number, .slice Ap pl pcap] 35) = x := ⟨_, rfl⟩
                      have hY : Hid (Blk wy wx.heap.size 35 #[.int .i64 m.kind, .int .i64 m.src, .int .i64 m.to, .int .i64 m.origin, .int .i64 m.number, .slice Ap pl pcap]) := by show Blk _ _ _ _; rw [← hwy]; exact Blk.new' rfl
                      have hby : Hid (Below wx.heap.size wx wy) := by show Below _ _ _; rw [← hwy]; exact (Below.refl _ _).alloc (Nat.le_refl _) _
                      rw [hwy]
                      obtain ⟨Z, hZ⟩ : ∃ Z, wx.heap.size = Z := ⟨_, rfl⟩
                      have hZd := Lib.hid hZ
                      rw [hZ] at hY ⊢
                      clear hwy hZ x0 x1
                      have x1 : wy.cell? ⟨xb, 1, none⟩ = some (.int .i64 pk) := (hby.out.cell (p := ⟨xb, 1, none⟩) hX.out.lt).trans ((hX.out.cell 1).trans rfl)
                      subst hbo0
                      have b1 : wy.cell? ⟨bb, k, none⟩ = some (.int .i64 (bk : Int)) := (hby.out.cell (p := ⟨bb, k, none⟩) hbbd.out).trans (by have h3 := hbc.out; rw [Nat.zero_add] at h3; exact h3)
                      have y1 : wy.cell? ⟨Z, 1, none⟩ = some (.int .i64 m.src) := (hY.out.cell 1).trans rfl
                      have yf := hY.out.frozen 1
                      clear hbc hbbd
                      go_wp2_with fail
                      refine (mod_any wy pk hok.out.2.1 bn hb1 (by omega)).mono ?_
                      rw [hkd.out]
                      rintro e w' ⟨rfl, rfl⟩
                      go_upto_region 41 with fail
                      obtain ⟨w4, hw4⟩ : ∃ x, wy.setCell ⟨Z, 1, none⟩ (.int .i64 (bk : Int)) = x := ⟨_, rfl⟩
                      have hY4 := hY.out.set_ 1 (.int .i64 (bk : Int))
                      rw [hw4] at hY4 ⊢
                      have hY4d : Hid (Blk w4 Z 35 #[.int .i64 m.kind, .int .i64 (bk : Int), .int .i64 m.to, .int .i64 m.origin, .int .i64 m.number, .slice Ap pl pcap]) := hY4
                      have hb4 : Hid (Below wx.heap.size wx w4) := by show Below _ _ _; rw [← hw4]; exact hby.out.setCell (by rw [hZd.out]; exact Nat.le_refl _) _
                      clear y1 yf hY4 hw4 hY hby x1 b1
                      have y2 : w4.cell? ⟨Z, 2, none⟩ = some (.int .i64 m.to) := (hY4d.out.cell 2).trans rfl
                      have yf := hY4d.out.frozen 2
                      go_wp2_with fail
                      refine (mod_any w4 m.to hok.out.2.2.2.2.1 n h1 (by omega)).mono ?_
                      rw [hmtd.out]
                      rintro e w' ⟨rfl, rfl⟩
                      go_upto_region 42 with fail
                      obtain ⟨w5, hw5⟩ : ∃ x, w4.setCell ⟨Z, 2, none⟩ (.int .i64 (mt : Int)) = x := ⟨_, rfl⟩
                      have hY5 := hY4d.out.set_ 2 (.int .i64 (mt : Int))
                      rw [hw5] at hY5 ⊢
                      have hY5d : Hid (Blk w5 Z 35 #[.int .i64 m.kind, .int .i64 (bk : Int), .int .i64 (mt : Int), .int .i64 m.origin, .int .i64 m.number, .slice Ap pl pcap]) := hY5
                      have hb5 : Hid (Below wx.heap.size wx w5) := by show Below _ _ _; rw [← hw5]; exact hb4.out.setCell (by rw [hZd.out]; exact Nat.le_refl _) _
                      clear y2 yf hY5 hw5 hY4d hb4
                      have x0 : w5.cell? ⟨xb, 0, none⟩ = some (.int .i64 4) := (hb5.out.cell (p := ⟨xb, 0, none⟩) hX.out.lt).trans ((hX.out.cell 0).trans rfl)
                      have hG5 : Hid (GrpIn w5 K1 g s Lb Gs AA an ac av PA pn pc pv CA cn cc cv) := hGd.out.upTo hb5.out
                      have hr5 : Hid (Rd w5 (fun y => K1 y = .no) Ap pl pcap m.payload) := hrx.out.fr (Fr.of_below (F := fun _ => False) hb5.out) (fun _ _ h => h)
                      have hw5 : Hid (Went wm K w5 K1) := hwtx.out.up hb5.out
                      clear hGd hrx hwtx hb5 hX hGx hZd
                      go_upto_region 44 with fail
                      clear x0
                      have hYd := hY5d.out
                      go_wp2_with ((with_reducible refine wpl_load_part rfl 35 (.tmp 17) rfl Z 0 ?_ 35 _ hYd #[.int .i64 m.kind, .int .i64 (bk : Int), .int .i64 (mt : Int), .int .i64 m.origin, .int .i64 m.number, .slice Ap pl pcap] rfl _ Try.underlying35 rfl (by kernel_rfl) ?_); rfl)
                      have r1 := Row.new (n := 1) (sz := 6) w5 35 #[.int .i64 m.kind, .int .i64 (bk : Int), .int .i64 (mt : Int), .int .i64 m.origin, .int .i64 m.number, .slice Ap pl pcap] _ rfl rfl (by decide)
                      have a1 : Ab w5 (w5.alloc (.cells #[.int .i64 m.kind, .int .i64 (bk : Int), .int .i64 (mt : Int), .int .i64 m.origin, .int .i64 m.number, .slice Ap pl pcap] 35)) := (Below.refl _ _).alloc (Nat.le_refl _) _
                      have hK0 : Hid (K1 w5.heap.size = .no) := Classical.byContradiction fun hz => by have := hG5.out.labs _ hz; omega
                      obtain ⟨w6, hw6⟩ : ∃ x, w5.alloc (.cells #[.int .i64 m.kind, .int .i64 (bk : Int), .int .i64 (mt : Int), .int .i64 m.origin, .int .i64 m.number, .slice Ap pl pcap] 35) = x := ⟨_, rfl⟩
                      rw [hw6] at r1 a1 ⊢
                      have hG6 : Hid (GrpIn w6 K1 g s Lb Gs AA an ac av PA pn pc pv CA cn cc cv) := hG5.out.upTo a1
                      have hr6 : Hid (RdP w6 (fun i => K1 i = .no) (some ⟨w5.heap.size, 0, none⟩) 1 1 [⟨m.kind, (bk : Int), (mt : Int), m.origin, m.number, m.payload⟩]) :=
                        ⟨_, r1.mono (fun i _ h => by rw [h]; exact hK0.out), _, [], rfl, ⟨Ap, pl, pcap, rfl, hr5.out.fr (Fr.of_below (F := fun _ => False) a1) (fun _ _ h => h)⟩, rfl⟩
                      have hw6e : Hid (Went wm K w6 K1) := hw5.out.up a1
                      clear hw6 r1 a1 hG5 hr5 hw5 hK0 hYd hY5d
                      go_wp2_with fail
                      refine (send_any hG6.out.at_ hr6.out (by have h3 := hfined.out.pend; show s.pending.length + 1 ≤ _; omega) (by rw [hfined.out.all]; omega)).mono ?_
                      rintro e w7 ⟨rfl, K7, hG7, hwt7⟩
                      have hG7d := Lib.hid hG7
                      have hw07 : Hid (Went wm K w7 K7) := hw6e.out.trans hwt7
                      clear hG7 hwt7 hw6e hG6 hr6
                      go_wp2_with fail
                      go_roundw
                      case rel => exact ⟨j + 1, K7, _, by omega, by go_num, by rw [hnx.out, hact.out], by rw [← hact.out]; exact hfined.out.act h7 (by omega) _ _ ⟨hok.out.2.2.2.2.2.2.2, hok.out.2.2.2.2.2.2.1.2⟩, hG7d.out, hw07.out⟩
                      case measure => simp [intOf]; omega
                · have k1b : (kd == 1) = false := by simp; omega
                  have k2b : (kd == 2) = false := by simp; omega
                  have k3b : (kd == 3) = false := by simp; omega
                  have k4b : (kd == 4) = false := by simp; omega
                  have hact : Hid (s.act n (Bra.bads n liar) ⟨kd, pk, m⟩ = s) := by
                    show _ = _
                    unfold Bra.Grp.act
                    rw [if_neg k0, if_neg k12, if_neg k34]
                  clear k0 k12 k34
                  go_wp2_with fail
                  go_roundw
                  case rel => exact ⟨j + 1, K1, s, by omega, by go_num, by rw [hnx.out, hact.out], hfined.out.more, hGx.out, hwtx.out⟩
                  case measure => simp [intOf]; omega
          · have hjI : ¬ (j : Int) < (len : Int) := by omega
            go_wp2_with fail
            go_ret2
            refine ⟨fun _ => ⟨g, K1, rfl, ?_, ?_, ?_⟩, fun hx => absurd (by rw [hfed.out]; exact hif.out) hx⟩
            · rw [List.take_of_length_le (by rw [hrd.out.1]; omega)] at hs
              rw [hs]; exact hG1
            · exact hbeld.out.trans (hwt.2.below (fun y hy => hlowd.out y hy.1) hbeld.out.size)
            · intro y hy
              rcases Nat.lt_or_ge y wm.heap.size with hl | hl
              · exact hlowd.out y (by rw [← hwt.1 y hl]; exact hy)
              · exact Nat.le_trans hbeld.out.size hl
      · have hbfI : (ff : Int) < (bn : Int) := by omega
        have hif : Hid (¬ (Bra.bads n liar).length ≤ ff) := by show ¬ _; rw [← hbnd.out]; exact hbf
        go_wp2_with fail
        go_ret2
        exact ⟨fun hx => absurd (by rw [hfed.out] at hx; exact hx) hif.out, fun _ => ⟨g, rfl, hbeld.out⟩⟩
end Go.Proofs.Ytplijfgjdlghbaa

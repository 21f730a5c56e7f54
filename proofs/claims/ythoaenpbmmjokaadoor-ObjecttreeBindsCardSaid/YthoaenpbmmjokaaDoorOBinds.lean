/-
  Two maps with the same root are equal, unless two different byte strings with the same digest occur.
-/
import Derived.Test.YthoaenpbmmjokaaDoorObArg
import Derived.Test.YthoaenpbmmjokaaDoorObAwk
import Derived.Test.YthoaenpbmmjokaaDoorObSm
import Derived.Test.YthoaenpbmmjokaaDoorObCla
namespace Go.Proofs.YthoaenpbmmjokaaDoor
open Go.RowKit Go.Pl
set_option maxRecDepth 100000 in
set_option maxHeartbeats 1000000 in
theorem same_any (w : World) {x y : Ob.It} {s p s' p' : Value} (hs : SlIs w (fun _ => True) s x.content) (hp : PathIs w (fun _ => True) p x.path) (hs' : SlIs w (fun _ => True) s' y.content) (hp' : PathIs w (fun _ => True) p' y.path) (r : Bool) (hr : r = true ↔ x = y) :
    Calls Tryd.prog 28 #[.agg (itv x s p).toArray, .agg (itv y s' p').toArray] w fun e w' => e = .returned (.bool r) ∧ Below w.heap.size w w' := by
  have hno : Hid (¬ x = y → r = false) := bool_of hr
  have hrd := Lib.hid hr
  obtain ⟨A, n, c, rfl, hA⟩ := hs
  obtain ⟨A', n', c', rfl, hA'⟩ := hs'
  obtain ⟨B, m, d, rfl, hB⟩ := hp
  obtain ⟨B', m', d', rfl, hB'⟩ := hp'
  have hm : Hid (m = x.path.length) := hB.len
  have hmx : m ≤ 9223372036854775807 := by
    obtain ⟨vs, h1, _⟩ := hB
    have := h1.le
    have := h1.max
    simp only [maxLen] at this
    omega
  have hm' : Hid (m' = y.path.length) := hB'.len
  obtain ⟨w1, hw1⟩ : ∃ v, w.alloc (.cells #[.string ⟨x.key.toArray⟩, .bool x.present, .slice A n c, .slice B m d] 26) = v := ⟨_, rfl⟩
  have hG1 : Blk w1 w.heap.size 26 #[.string ⟨x.key.toArray⟩, .bool x.present, .slice A n c, .slice B m d] := by rw [← hw1]; exact Blk.new' rfl
  have hs1 : w1.heap.size = w.heap.size + 1 := by rw [← hw1]; exact Array.size_push _
  have hb1 : Below w.heap.size w w1 := by rw [← hw1]; exact (Below.refl _ _).alloc (Nat.le_refl _) _
  obtain ⟨w2, hw2⟩ : ∃ v, w1.alloc (.cells #[.string ⟨y.key.toArray⟩, .bool y.present, .slice A' n' c', .slice B' m' d'] 26) = v := ⟨_, rfl⟩
  have hG2 : Blk w2 (w.heap.size + 1) 26 #[.string ⟨y.key.toArray⟩, .bool y.present, .slice A' n' c', .slice B' m' d'] := by rw [← hw2]; exact Blk.new' hs1.symm
  have hG1' : Blk w2 w.heap.size 26 #[.string ⟨x.key.toArray⟩, .bool x.present, .slice A n c, .slice B m d] := by rw [← hw2]; exact hG1.alloc _
  have hb2 : Below w.heap.size w w2 := by rw [← hw2]; exact hb1.alloc hb1.size _
  have hbd := Lib.hid hb2
  have f2 := Fr.of_below (F := fun _ => False) hb2
  have q1 := ((hA.fr f2 (fun _ _ h => h)).bytes (fun i hi _ => hi) : Bytes w2 w2.heap.size _ _)
  have q2 := ((hA'.fr f2 (fun _ _ h => h)).bytes (fun i hi _ => hi) : Bytes w2 w2.heap.size _ _)
  have hBd := Lib.hid (hB.fr f2 (fun _ _ h => h))
  have hBd' := Lib.hid (hB'.fr f2 (fun _ _ h => h))
  have g0 := (hG1'.cell 0).trans rfl
  have g1 := (hG1'.cell 1).trans rfl
  have g2 := (hG1'.cell 2).trans rfl
  have g3 := (hG1'.cell 3).trans rfl
  have k0 := (hG2.cell 0).trans rfl
  have k1 := (hG2.cell 1).trans rfl
  have k2 := (hG2.cell 2).trans rfl
  have k3 := (hG2.cell 3).trans rfl
  have hl2 : Hid (w.heap.size + 1 < w2.heap.size) := hG2.lt
  have hw1d := Lib.hid hw1
  have hw2d := Lib.hid hw2
  clear hw1 hw2 hr hA hA' hB hB' hG1 hs1 hb1 hG2 hG1' hb2 f2
  show Calls Tryd.prog 28 #[.agg #[.string ⟨x.key.toArray⟩, .bool x.present, .slice A n c, .slice B m d], .agg #[.string ⟨y.key.toArray⟩, .bool y.present, .slice A' n' c', .slice B' m' d']] w _
  go_enter Tryd.func28, Tryd.ntmps28
  go_upto_region 1 with fail
  rw [hw1d.out, hw2d.out]
  have e0 := str_eq (a := x.key) (b := y.key)
  by_cases hk : x.key = y.key
  · have e1 := e0 true ⟨fun _ => hk, fun _ => rfl⟩
    have e2 : (x.key == y.key) = true := by simpa using hk
    by_cases hp : x.present = y.present
    · have e3 : (x.present == y.present) = true := by simpa using hp
      have e3b : (x.present != y.present) = false := by simpa using hp
      by_cases hc : x.content = y.content
      · have e4 := str_eq (a := x.content) (b := y.content) true ⟨fun _ => hc, fun _ => rfl⟩
        have e5 : (x.content == y.content) = true := by simpa using hc
        by_cases hl : m = m'
        · have e6 : decide (m = m') = true := by simpa using hl
          have e7 : ((m : Int) != (m' : Int)) = false := by rw [hl]; simp
          have e8 : ((m : Int) == (m' : Int)) = true := by rw [hl]; simp
          have hkd := Lib.hid hk
          have hpd := Lib.hid hp
          have hcd := Lib.hid hc
          have hld := Lib.hid hl
          clear hk hp hc hl e0
          go_wp2_with (first
           | ((with_reducible refine wpl_string_w 23 9 5 (.tmp 20) rfl rfl ?_ ?_ ?_ _ ?_ _ q1 ?_); rfl; rfl; rfl; rfl)
           | ((with_reducible refine wpl_string_w 23 9 5 (.tmp 23) rfl rfl ?_ ?_ ?_ _ ?_ _ q2 ?_); rfl; rfl; rfl; rfl))
          clear e1 e2 e3 e3b e4 e5 e6 e7 e8 q1 q2 g0 g1 g2 k0 k1 k2
          go_loopw [5] (fun t5 wr => ∃ i : Nat, i ≤ m ∧ t5 = .int .i64 i ∧ (∀ j, j < i → x.path[j]? = y.path[j]?) ∧ Ab w2 wr) (fun t5 _ => m - (intOf t5).toNat)
          case atStart => exact ⟨0, by omega, rfl, fun j h => by omega, Ab.refl _⟩
          case round =>
            obtain ⟨i, hi, rfl, hok, hb⟩ := hrel
            have hid := Lib.hid hi
            have hokd := Lib.hid hok
            have hab := Lib.hid hb
            have g3' := (hb.cell (p := ⟨w.heap.size, 3, none⟩) (Nat.lt_of_succ_lt hl2.out)).trans g3
            have k3' := (hb.cell (p := ⟨w.heap.size + 1, 3, none⟩) hl2.out).trans k3
            clear hi hok hb
            by_cases hlt : i < m
            · have hltI : (i : Int) < (m : Int) := by omega
              obtain ⟨u, hu⟩ : ∃ u, x.path[i]? = some u := ⟨_, List.getElem?_eq_getElem (by have := hm.out; omega)⟩
              obtain ⟨v, hv⟩ : ∃ v, y.path[i]? = some v := ⟨_, List.getElem?_eq_getElem (by have := hm'.out; have := hld.out; omega)⟩
              obtain ⟨b1, o1, s1, hBe, -, hbl1, ⟨A1, n1, c1, rfl, r1⟩, d1⟩ := hBd.out.get hu
              obtain ⟨b2, o2, s2, hBe', -, hbl2, ⟨A2, n2, c2, rfl, r2⟩, d2⟩ := hBd'.out.get hv
              subst hBe hBe'
              have hud := Lib.hid hu
              have hvd := Lib.hid hv
              have hlt2 : i < m' := by have := hld.out; omega
              have hlt2I : (i : Int) < (m' : Int) := by omega
              go_upto_region 6 with fail
              have u1 : ∀ w', Ab wr.drew w' → w'.cell? ⟨w.heap.size, 3, none⟩ = some (.slice (some ⟨b1, o1, none⟩) m d) := fun w' h => (Below.cell h (p := ⟨w.heap.size, 3, none⟩) (Nat.lt_of_lt_of_le (Nat.lt_of_succ_lt hl2.out) hab.out.size)).trans g3'
              have u2 : ∀ w', Ab wr.drew w' → w'.cell? ⟨w.heap.size + 1, 3, none⟩ = some (.slice (some ⟨b2, o2, none⟩) m' d') := fun w' h => (Below.cell h (p := ⟨w.heap.size + 1, 3, none⟩) (Nat.lt_of_lt_of_le hl2.out hab.out.size)).trans k3'
              have u3 : ∀ w', Ab wr.drew w' → w'.cell? ⟨b1, o1 + i, none⟩ = some (.slice A1 n1 c1) := fun w' h => (Below.cell h (p := ⟨b1, o1 + i, none⟩) (Nat.lt_of_lt_of_le hbl1 hab.out.size)).trans ((hab.out.cell (p := ⟨b1, o1 + i, none⟩) hbl1).trans d1)
              have u4 : ∀ w', Ab wr.drew w' → w'.cell? ⟨b2, o2 + i, none⟩ = some (.slice A2 n2 c2) := fun w' h => (Below.cell h (p := ⟨b2, o2 + i, none⟩) (Nat.lt_of_lt_of_le hbl2 hab.out.size)).trans ((hab.out.cell (p := ⟨b2, o2 + i, none⟩) hbl2).trans d2)
              have u5 : ∀ w', Ab wr.drew w' → Bytes w' w'.heap.size (.slice A1 n1 c1) u := fun w' h => (((r1.ab hab.out).ab (ab_drew wr)).ab h).bytes (fun i hi _ => hi)
              have u6 : ∀ w', Ab wr.drew w' → Bytes w' w'.heap.size (.slice A2 n2 c2) v := fun w' h => (((r2.ab hab.out).ab (ab_drew wr)).ab h).bytes (fun i hi _ => hi)
              have hab2 : Hid (Ab w2 wr.drew) := Ab.trans _ _ _ hab.out (ab_drew wr)
              by_cases huv : u = v
              · have e1 := str_eq (a := u) (b := v) true ⟨fun _ => huv, fun _ => rfl⟩
                have e2 : (u == v) = true := by simpa using huv
                have huvd := Lib.hid huv
                clear huv hu hv d1 d2 r1 r2 g3' k3'
                refine wp_region_plan Ab Ab.refl Ab.trans [] [0, 1, 2, 3, 4, 5, 6, 7, 8, 9, 10, 11, 12] (by kernel_rfl) (by kernel_rfl) (fun _ _ _ _ _ h => h) ?_
                simp only [wpPlan, ordPick, Option.toList_some, List.cons_append, List.nil_append, List.getElem?_cons_succ, List.getElem?_cons_zero]
                iterate 1 (go_big_quiet_step (exact fun _ => rfl))
                refine wpq_load_one rfl 24 (.tmp 43) rfl ⟨w.heap.size, 3, none⟩ rfl _ u1 _ Tryd.underlying24 rfl ?_
                simp only [Act.put, List.setIfInBounds_toArray, List.set_cons_succ, List.set_cons_zero]
                iterate 2 (go_big_quiet_step (exact fun _ => rfl))
                refine wpq_load_one rfl 23 (.tmp 46) rfl ⟨b1, o1 + i, none⟩ rfl _ u3 _ Tryd.underlying23 rfl ?_
                simp only [Act.put, List.setIfInBounds_toArray, List.set_cons_succ, List.set_cons_zero]
                refine wpq_string rfl 23 9 5 (.tmp 47) rfl Tryd.underlying23 Tryd.underlying5 Tryd.underlying9 A1 n1 c1 rfl u u5 ?_
                simp only [Act.put, List.setIfInBounds_toArray, List.set_cons_succ, List.set_cons_zero]
                iterate 1 (go_big_quiet_step (exact fun _ => rfl))
                refine wpq_load_one rfl 24 (.tmp 49) rfl ⟨w.heap.size + 1, 3, none⟩ rfl _ u2 _ Tryd.underlying24 rfl ?_
                simp only [Act.put, List.setIfInBounds_toArray, List.set_cons_succ, List.set_cons_zero]
                iterate 2 (go_big_quiet_step (exact fun _ => rfl))
                refine wpq_load_one rfl 23 (.tmp 52) rfl ⟨b2, o2 + i, none⟩ rfl _ u4 _ Tryd.underlying23 rfl ?_
                simp only [Act.put, List.setIfInBounds_toArray, List.set_cons_succ, List.set_cons_zero]
                refine wpq_string rfl 23 9 5 (.tmp 53) rfl Tryd.underlying23 Tryd.underlying5 Tryd.underlying9 A2 n2 c2 rfl v u6 ?_
                simp only [Act.put, List.setIfInBounds_toArray, List.set_cons_succ, List.set_cons_zero]
                iterate 1 (go_big_quiet_step (exact fun _ => rfl))
                refine wpQuiet_nil ?_
                go_wp2_with fail
                go_roundw
                case rel =>
                  refine ⟨i + 1, hlt, by go_num, fun j hj => ?_, hab2.out⟩
                  rcases Nat.lt_or_ge j i with h | h
                  · exact hokd.out j h
                  · obtain rfl : j = i := by omega
                    rw [hud.out, hvd.out, huvd.out]
                case measure => simp [intOf]; omega
              · have e1 := str_eq (a := u) (b := v) false ⟨fun h => (by cases h), fun h => (huv h).elim⟩
                have e2 : (u == v) = false := by simpa using huv
                have huvd := Lib.hid huv
                clear huv hu hv d1 d2 r1 r2 g3' k3'
                refine wp_region_plan Ab Ab.refl Ab.trans [] [0, 1, 2, 3, 4, 5, 6, 7, 8, 9, 10, 11, 12] (by kernel_rfl) (by kernel_rfl) (fun _ _ _ _ _ h => h) ?_
                simp only [wpPlan, ordPick, Option.toList_some, List.cons_append, List.nil_append, List.getElem?_cons_succ, List.getElem?_cons_zero]
                iterate 1 (go_big_quiet_step (exact fun _ => rfl))
                refine wpq_load_one rfl 24 (.tmp 43) rfl ⟨w.heap.size, 3, none⟩ rfl _ u1 _ Tryd.underlying24 rfl ?_
                simp only [Act.put, List.setIfInBounds_toArray, List.set_cons_succ, List.set_cons_zero]
                iterate 2 (go_big_quiet_step (exact fun _ => rfl))
                refine wpq_load_one rfl 23 (.tmp 46) rfl ⟨b1, o1 + i, none⟩ rfl _ u3 _ Tryd.underlying23 rfl ?_
                simp only [Act.put, List.setIfInBounds_toArray, List.set_cons_succ, List.set_cons_zero]
                refine wpq_string rfl 23 9 5 (.tmp 47) rfl Tryd.underlying23 Tryd.underlying5 Tryd.underlying9 A1 n1 c1 rfl u u5 ?_
                simp only [Act.put, List.setIfInBounds_toArray, List.set_cons_succ, List.set_cons_zero]
                iterate 1 (go_big_quiet_step (exact fun _ => rfl))
                refine wpq_load_one rfl 24 (.tmp 49) rfl ⟨w.heap.size + 1, 3, none⟩ rfl _ u2 _ Tryd.underlying24 rfl ?_
                simp only [Act.put, List.setIfInBounds_toArray, List.set_cons_succ, List.set_cons_zero]
                iterate 2 (go_big_quiet_step (exact fun _ => rfl))
                refine wpq_load_one rfl 23 (.tmp 52) rfl ⟨b2, o2 + i, none⟩ rfl _ u4 _ Tryd.underlying23 rfl ?_
                simp only [Act.put, List.setIfInBounds_toArray, List.set_cons_succ, List.set_cons_zero]
                refine wpq_string rfl 23 9 5 (.tmp 53) rfl Tryd.underlying23 Tryd.underlying5 Tryd.underlying9 A2 n2 c2 rfl v u6 ?_
                simp only [Act.put, List.setIfInBounds_toArray, List.set_cons_succ, List.set_cons_zero]
                iterate 1 (go_big_quiet_step (exact fun _ => rfl))
                refine wpQuiet_nil ?_
                go_wp2_with fail
                go_ret
                refine ⟨?_, hbd.out.trans (hab2.out.mono hbd.out.size)⟩
                rw [hno.out (fun e => huvd.out (by have h1 := hud.out; have h2 := hvd.out; rw [e, h2] at h1; exact (Option.some.inj h1).symm))]; rfl
            · have hltI : ¬ (i : Int) < (m : Int) := by omega
              go_wp2_with fail
              go_ret
              refine ⟨?_, hbd.out.trans (hab.out.mono hbd.out.size)⟩
              rw [hrd.out.2 ?_]
              · rfl
              · have hpp : x.path = y.path := by
                  apply List.ext_getElem?
                  intro j
                  by_cases hj : j < i
                  · exact hokd.out j hj
                  · have h1 := hm.out
                    have h2 := hm'.out
                    have h3 := hld.out
                    rw [List.getElem?_eq_none (by omega), List.getElem?_eq_none (by omega)]
                have h1 := hkd.out
                have h2 := hpd.out
                have h3 := hcd.out
                cases x
                cases y
                simp_all
        · have e6 : decide (m = m') = false := by simpa using hl
          have e7 : ((m : Int) != (m' : Int)) = true := by simp; omega
          have e8 : ((m : Int) == (m' : Int)) = false := by simp; omega
          have hld := Lib.hid hl
          clear e0 hl
          go_wp2_with (first
           | ((with_reducible refine wpl_string_w 23 9 5 (.tmp 20) rfl rfl ?_ ?_ ?_ _ ?_ _ q1 ?_); rfl; rfl; rfl; rfl)
           | ((with_reducible refine wpl_string_w 23 9 5 (.tmp 23) rfl rfl ?_ ?_ ?_ _ ?_ _ q2 ?_); rfl; rfl; rfl; rfl))
          go_ret
          refine ⟨?_, hbd.out⟩
          rw [hno.out (fun e => hld.out (by rw [hm.out, hm'.out, e]))]; rfl
      · have e4 := str_eq (a := x.content) (b := y.content) false ⟨fun h => (by cases h), fun h => (hc h).elim⟩
        have e5 : (x.content == y.content) = false := by simpa using hc
        have hcd := Lib.hid hc
        clear e0 hc
        go_wp2_with (first
         | ((with_reducible refine wpl_string_w 23 9 5 (.tmp 20) rfl rfl ?_ ?_ ?_ _ ?_ _ q1 ?_); rfl; rfl; rfl; rfl)
         | ((with_reducible refine wpl_string_w 23 9 5 (.tmp 23) rfl rfl ?_ ?_ ?_ _ ?_ _ q2 ?_); rfl; rfl; rfl; rfl))
        go_ret
        refine ⟨?_, hbd.out⟩
        rw [hno.out (fun e => hcd.out (by rw [e]))]; rfl
    · have e3 : (x.present == y.present) = false := by simpa using hp
      have e3b : (x.present != y.present) = true := by simpa using hp
      have hpd := Lib.hid hp
      clear e0 hp
      go_wp2_with (first
       | ((with_reducible refine wpl_string_w 23 9 5 (.tmp 20) rfl rfl ?_ ?_ ?_ _ ?_ _ q1 ?_); rfl; rfl; rfl; rfl)
       | ((with_reducible refine wpl_string_w 23 9 5 (.tmp 23) rfl rfl ?_ ?_ ?_ _ ?_ _ q2 ?_); rfl; rfl; rfl; rfl))
      go_ret
      refine ⟨?_, hbd.out⟩
      rw [hno.out (fun e => hpd.out (by rw [e]))]; rfl
  · have e1 := e0 false ⟨fun h => (by cases h), fun h => (hk h).elim⟩
    have e2 : (x.key == y.key) = false := by simpa using hk
    have hkd := Lib.hid hk
    clear e0 hk
    go_wp2_with (first
     | ((with_reducible refine wpl_string_w 23 9 5 (.tmp 20) rfl rfl ?_ ?_ ?_ _ ?_ _ q1 ?_); rfl; rfl; rfl; rfl)
     | ((with_reducible refine wpl_string_w 23 9 5 (.tmp 23) rfl rfl ?_ ?_ ?_ _ ?_ _ q2 ?_); rfl; rfl; rfl; rfl))
    go_ret
    refine ⟨?_, hbd.out⟩
    rw [hno.out (fun e => hkd.out (by rw [e]))]; rfl
end Go.Proofs.YthoaenpbmmjokaaDoor
namespace Go.Pl
open Go.RowKit
/-- An item in the middle of a row, loaded where a region is walked quietly. -/
theorem wpq_load_item {P : Program} {ops : Array Oper} {rest : List Oper} {o : Oper} {a : Act} {C : World → Prop} {R : Act → Prop} (hgd : o.guard = none) (ty : TypeId) (x : Operand) (hop : o.op = .load ty x) (g k : Nat) (hx : a.eval x = .pointer (some ⟨g, k, none⟩)) (v0 v1 v2 v3 : Value) (hr : ∀ w, C w → w.rangeAt g k [v0, v1, v2, v3])
    (d : TypeDesc) (hu : P.underlying ty = some d) (hd : d.isRow = true) (hi : (P.info? ty).map (·.size) = some 4)
    (h : wpQuiet P ops C R rest (a.put o.dst (.agg #[v0, v1, v2, v3]))) : wpQuiet P ops C R (o :: rest) a :=
  BigFrame.wpQuiet_want (by simp [Region.wanted, hgd]) fun K hK => ⟨.agg #[v0, v1, v2, v3], fun w hw => by
    have hl := run_loadVar_mid (P := P) w g k ty [v0, v1, v2, v3] d (hr w hw) hu hd (by simpa using hi)
    unfold Oper.quietAt execOp
    simp only [hop, hx, Instr.loadAt, Instr.sureAddr, Sem.run_bind, Sem.run_pure, Result.andThen_ok, hl]
    exact ⟨rfl, rfl⟩, hK _ h⟩
end Go.Pl
namespace Go.Proofs.YthoaenpbmmjokaaDoor.objecttreeBinds
open Go.ChangeShapes Go.WideShapes Go.ChangeAt Go.RowKit Go.Pl
theorem ismap_all {xs : List Ob.It} (h : Ob.IsMap xs) : ∀ x ∈ xs, x.key.length ≤ 65536 ∧ x.present = true ∧ x.path = [] := by
  intro x hx
  obtain ⟨i, hi⟩ := List.getElem?_of_mem hx
  obtain ⟨y, h1, h2, h3, h4, _⟩ := h i (List.getElem?_eq_some_iff.1 hi).1
  rw [hi] at h1
  cases h1
  exact ⟨h4, h2, h3⟩
set_option maxRecDepth 100000 in
set_option maxHeartbeats 2000000 in
theorem walk {A B : Option Addr} {n c m d : Nat} {xs ys : List Ob.It} (w : World) (hK : Kst w) (hx : RdI w (fun _ => True) A n c xs) (hy : RdI w (fun _ => True) B m d ys) :
    Calls Tryd.prog 8 #[.slice A n c, .slice B m d] w fun e w' => e = .returned (.bool true) ∧ Below w.heap.size w w' := by
  have hnl := Lib.hid hx.len
  have hml := Lib.hid hy.len
  have hxd := Lib.hid hx
  have hyd := Lib.hid hy
  clear hx hy
  go_enter Tryd.func8, Tryd.ntmps8
  go_wp2_with fail
  refine (awake_any _ hK).mono ?_
  rintro e w1 ⟨rfl, hb1⟩
  have hb1d := Lib.hid hb1
  clear hb1
  have up : ∀ w', Below w.heap.size w w' → RdI w' (fun _ => True) A n c xs := fun _ h => hxd.out.fr (Fr.of_below (F := fun _ => False) h) (fun _ _ h => h)
  have upd := Lib.hid up
  have uq : ∀ w', Below w.heap.size w w' → RdI w' (fun _ => True) B m d ys := fun _ h => hyd.out.fr (Fr.of_below (F := fun _ => False) h) (fun _ _ h => h)
  have uqd := Lib.hid uq
  clear up uq
  go_wp2_with fail
  by_cases hs : Ob.Small xs
  · refine (small_any w1 (upd.out _ hb1d.out) true ⟨fun _ => hs, fun _ => rfl⟩).mono ?_
    rintro e w2 ⟨rfl, rfl⟩
    have hsm := Lib.hid hs
    have hks : Hid (∀ x ∈ xs, x.key.length ≤ 100000 ∧ x.content.length ≤ 1000000) := fun x h => by have := hsm.out.2 x h; exact ⟨by have := this.1; omega, by have := this.2.1; omega⟩
    have hn : n ≤ 20 := by have := hs.1; have := hnl.out; omega
    have hnd := Lib.hid hn
    clear hs hn
    go_wp2_with fail
    by_cases hs2 : Ob.Small ys
    · refine (small_any w1 (uqd.out _ hb1d.out) true ⟨fun _ => hs2, fun _ => rfl⟩).mono ?_
      rintro e w2 ⟨rfl, rfl⟩
      have hsm2 := Lib.hid hs2
      have hks2 : Hid (∀ x ∈ ys, x.key.length ≤ 100000 ∧ x.content.length ≤ 1000000) := fun x h => by have := hsm2.out.2 x h; exact ⟨by have := this.1; omega, by have := this.2.1; omega⟩
      have hm2 : m ≤ 20 := by have := hs2.1; have := hml.out; omega
      have hmd := Lib.hid hm2
      clear hs2 hm2
      go_wp2_with fail
      by_cases hm : Ob.IsMap xs
      · refine (refmap_any w1 (upd.out _ hb1d.out) (by have := hnd.out; omega) (fun x h => (hks.out x h).1) true ⟨fun _ => hm, fun _ => rfl⟩).mono ?_
        rintro e w2 ⟨rfl, hb2⟩
        have hb2d : Hid (Below w.heap.size w w2) := hb1d.out.trans (hb2.mono hb1d.out.size)
        have hmx := Lib.hid hm
        clear hb2 hm
        go_wp2_with fail
        by_cases hm : Ob.IsMap ys
        · refine (refmap_any w2 (uqd.out _ hb2d.out) (by have := hmd.out; omega) (fun x h => (hks2.out x h).1) true ⟨fun _ => hm, fun _ => rfl⟩).mono ?_
          rintro e w3 ⟨rfl, hb3⟩
          have hb3d : Hid (Below w.heap.size w w3) := hb2d.out.trans (hb3.mono hb2d.out.size)
          have hmy := Lib.hid hm
          clear hb3 hm
          go_wp2_with fail
          refine (root_map w3 (hK.below hb3d.out hK.pos) (upd.out _ hb3d.out) (by have := hnd.out; omega) hks.out hmx.out).mono ?_
          rintro e w4 ⟨A4, n4, c4, rfl, hr4, hb4⟩
          have r4 := Lib.hid (hr4.mono (T := fun _ => True) (fun _ _ _ => trivial))
          have hb4d : Hid (Below w.heap.size w w4) := hb3d.out.trans (hb4.mono hb3d.out.size)
          clear hr4 hb4
          go_wp2_with fail
          refine (root_map w4 (hK.below hb4d.out hK.pos) (uqd.out _ hb4d.out) (by have := hmd.out; omega) hks2.out hmy.out).mono ?_
          rintro e w5 ⟨A5, n5, c5, rfl, hr5, hb5⟩
          have r5 := Lib.hid (hr5.mono (T := fun _ => True) (fun _ _ _ => trivial))
          have f45 : Hid (Fr (fun _ => False) w4 w5) := Fr.of_below hb5
          have hb5d : Hid (Below w.heap.size w w5) := hb4d.out.trans (hb5.mono hb4d.out.size)
          have r45 : Hid (Rd w5 (fun _ => True) A4 n4 c4 (Ob.rootH xs)) := r4.out.fr f45.out (fun _ _ h => h)
          clear hr5 hb5 r4
          go_wp2_with fail
          go_loopw [9, 10] (fun t9 t10 wr => ∃ (S : Bool) (i : Nat), i ≤ n ∧ t9 = .bool S ∧ t10 = .int .i64 i ∧ (S = true → n = m ∧ ∀ j, j < i → xs[j]? = ys[j]?) ∧ (S = false → xs ≠ ys) ∧ Ab w5 wr) (fun _ t10 _ => n - (intOf t10).toNat)
          case atStart =>
            refine ⟨decide (n = m), 0, by omega, ?_, rfl, fun h => ⟨by simpa using h, fun j h => by omega⟩, fun h e => ?_, Ab.refl _⟩
            · by_cases hnm : n = m
              · subst hnm; simp
              · simp [hnm]; omega
            · have h1 : ¬ n = m := by simpa using h
              exact h1 (by rw [hnl.out, hml.out, e])
          case round =>
            obtain ⟨S, i, hi, rfl, rfl, hST, hSF, hab⟩ := hrel
            have hSTd := Lib.hid hST
            have hSFd := Lib.hid hSF
            have habd := Lib.hid hab
            have brd : Hid (Below w.heap.size w wr) := hb5d.out.trans (hab.mono hb5d.out.size)
            clear hST hSF hab
            have q1 : Bytes wr wr.heap.size (.slice A4 n4 c4) (Ob.rootH xs) := (r45.out.ab habd.out).bytes (fun i hi _ => hi)
            have q2 : Bytes wr wr.heap.size (.slice A5 n5 c5) (Ob.rootH ys) := (r5.out.ab habd.out).bytes (fun i hi _ => hi)
            have hi20 : i ≤ 20 := by have := hnd.out; omega
            cases S with
            | true =>
              have hT : Hid (n = m ∧ ∀ j, j < i → xs[j]? = ys[j]?) := hSTd.out rfl
              by_cases hlt : i < n
              · have hltI : (i : Int) < (n : Int) := by omega
                have hltm : i < m := by have := hT.out.1; omega
                have hltmI : (i : Int) < (m : Int) := by omega
                obtain ⟨x, hx⟩ : ∃ x, xs[i]? = some x := ⟨_, List.getElem?_eq_getElem (by have := hnl.out; omega)⟩
                obtain ⟨y, hy⟩ : ∃ y, ys[i]? = some y := ⟨_, List.getElem?_eq_getElem (by have := hml.out; omega)⟩
                obtain ⟨b1, o1, s1, p1, rfl, -, hbl1, hs1, hp1, x0, x1, x2, x3⟩ := hxd.out.get hx
                obtain ⟨b2, o2, s2, p2, rfl, -, hbl2, hs2, hp2, y0, y1, y2, y3⟩ := hyd.out.get hy
                have u1 : ∀ w', Ab wr.drew w' → w'.rangeAt b1 (o1 + i * 4) [.string ⟨x.key.toArray⟩, .bool x.present, s1, p1] := fun w' h j v hj => by
                  refine (Below.cell h (p := ⟨b1, o1 + i * 4 + j, none⟩) (Nat.lt_of_lt_of_le hbl1 brd.out.size)).trans ((brd.out.cell (p := ⟨b1, o1 + i * 4 + j, none⟩) hbl1).trans ?_)
                  match j, hj with
                  | 0, hj => cases hj; exact x0
                  | 1, hj => cases hj; exact x1
                  | 2, hj => cases hj; exact x2
                  | 3, hj => cases hj; exact x3
                  | j + 4, hj => simp at hj
                have u2 : ∀ w', Ab wr.drew w' → w'.rangeAt b2 (o2 + i * 4) [.string ⟨y.key.toArray⟩, .bool y.present, s2, p2] := fun w' h j v hj => by
                  refine (Below.cell h (p := ⟨b2, o2 + i * 4 + j, none⟩) (Nat.lt_of_lt_of_le hbl2 brd.out.size)).trans ((brd.out.cell (p := ⟨b2, o2 + i * 4 + j, none⟩) hbl2).trans ?_)
                  match j, hj with
                  | 0, hj => cases hj; exact y0
                  | 1, hj => cases hj; exact y1
                  | 2, hj => cases hj; exact y2
                  | 3, hj => cases hj; exact y3
                  | j + 4, hj => simp at hj
                have hxi := Lib.hid hx
                have hyi := Lib.hid hy
                have hs1d := Lib.hid hs1
                have hp1d := Lib.hid hp1
                have hs2d := Lib.hid hs2
                have hp2d := Lib.hid hp2
                have b3 : Hid (Below w.heap.size w wr.drew) := brd.out.trans ((ab_drew wr).mono brd.out.size)
                have ab3 : Hid (Ab w5 wr.drew) := Ab.trans _ _ _ habd.out (ab_drew wr)
                clear hx hy hs1 hp1 hs2 hp2 x0 x1 x2 x3 y0 y1 y2 y3 q1 q2
                go_upto_region 13 with fail
                refine wp_region_late Ab Ab.refl Ab.trans [] (.one [0, 1, 4, 5] [2, 3, 6, 7] 8 (.last [9] [])) (by kernel_rfl) (by kernel_rfl) (fun _ _ _ _ _ h => h) ?_
                simp only [wpSchV, ordPick, Option.toList_some, List.cons_append, List.nil_append, List.getElem?_cons_succ, List.getElem?_cons_zero]
                generalize wr.drew = w6 at u1 u2 b3 ab3 ⊢
                iterate 4 (go_big_quiet_step (exact fun _ => rfl))
                refine wpQuiet_nil ?_
                iterate 1 (go_big_quiet_step (exact fun _ => rfl))
                refine wpq_load_item rfl 26 (.tmp 67) rfl b1 (o1 + i * 4) rfl _ _ _ _ u1 _ Tryd.underlying26 rfl (by kernel_rfl) ?_
                simp only [Act.put, List.setIfInBounds_toArray, List.set_cons_succ, List.set_cons_zero]
                iterate 1 (go_big_quiet_step (exact fun _ => rfl))
                refine wpq_load_item rfl 26 (.tmp 71) rfl b2 (o2 + i * 4) rfl _ _ _ _ u2 _ Tryd.underlying26 rfl (by kernel_rfl) ?_
                simp only [Act.put, List.setIfInBounds_toArray, List.set_cons_succ, List.set_cons_zero]
                refine wpQuiet_nil ?_
                clear u1 u2
                have f6 := Fr.of_below (F := fun _ => False) b3.out
                go_wp2_with fail
                by_cases hxy : x = y
                · refine (same_any w6 (x := x) (y := y) (hs1d.out.fr f6 (fun _ _ h => h)) (hp1d.out.fr f6 (fun _ _ h => h)) (hs2d.out.fr f6 (fun _ _ h => h)) (hp2d.out.fr f6 (fun _ _ h => h)) true ⟨fun _ => hxy, fun _ => rfl⟩).mono ?_
                  rintro e w7 ⟨rfl, hb7⟩
                  have ab7 : Hid (Ab w6 w7) := hb7
                  have hxyd := Lib.hid hxy
                  clear hb7 f6 hxy
                  go_wp2_with fail
                  refine And.intro (.inr ab7.out) ?_
                  simp only
                  iterate 1 (go_big_quiet_step (exact fun _ => rfl))
                  refine wpQuiet_nil (wpQuiet_nil ?_)
                  go_wp2_with fail
                  go_roundw
                  case rel =>
                    refine ⟨true, i + 1, hlt, rfl, by go_num, fun _ => ⟨hT.out.1, fun j hj => ?_⟩, (fun h => by cases h), Ab.trans _ _ _ ab3.out ab7.out⟩
                    rcases Nat.lt_or_ge j i with h | h
                    · exact hT.out.2 j h
                    · obtain rfl : j = i := by omega
                      rw [hxi.out, hyi.out, hxyd.out]
                  case measure => simp [intOf]; omega
                · refine (same_any w6 (x := x) (y := y) (hs1d.out.fr f6 (fun _ _ h => h)) (hp1d.out.fr f6 (fun _ _ h => h)) (hs2d.out.fr f6 (fun _ _ h => h)) (hp2d.out.fr f6 (fun _ _ h => h)) false ⟨fun h => (by cases h), fun h => (hxy h).elim⟩).mono ?_
                  rintro e w7 ⟨rfl, hb7⟩
                  have ab7 : Hid (Ab w6 w7) := hb7
                  have hxyd := Lib.hid hxy
                  clear hb7 f6 hxy
                  go_wp2_with fail
                  refine And.intro (.inr ab7.out) ?_
                  simp only
                  iterate 1 (go_big_quiet_step (exact fun _ => rfl))
                  refine wpQuiet_nil (wpQuiet_nil ?_)
                  go_wp2_with fail
                  go_roundw
                  case rel =>
                    refine ⟨false, i + 1, hlt, rfl, by go_num, (fun h => by cases h), fun _ e => hxyd.out ?_, Ab.trans _ _ _ ab3.out ab7.out⟩
                    have h1 := hxi.out
                    rw [e, hyi.out] at h1
                    exact (Option.some.inj h1).symm
                  case measure => simp [intOf]; omega
              · have hltI : ¬ (i : Int) < (n : Int) := by omega
                have hxy : xs = ys := by
                  obtain ⟨e1, e2⟩ := hT.out
                  apply List.ext_getElem?
                  intro j
                  by_cases hj : j < i
                  · exact e2 j hj
                  · have h1 := hnl.out
                    have h2 := hml.out
                    rw [List.getElem?_eq_none (by omega), List.getElem?_eq_none (by omega)]
                have e1 := str_eq (a := Ob.rootH xs) (b := Ob.rootH ys) true ⟨fun _ => by rw [hxy], fun _ => rfl⟩
                have e2 : (Ob.rootH xs == Ob.rootH ys) = true := by rw [hxy]; simp
                clear hxy hi
                go_wp2_with (first
                  | ((with_reducible refine wpl_string_w 23 9 5 (.tmp 76) rfl rfl ?_ ?_ ?_ _ ?_ _ q1 ?_); rfl; rfl; rfl; rfl)
                  | ((with_reducible refine wpl_string_w 23 9 5 (.tmp 78) rfl rfl ?_ ?_ ?_ _ ?_ _ q2 ?_); rfl; rfl; rfl; rfl)
                  | ((with_reducible refine wpl_string_w 23 9 5 (.tmp 83) rfl rfl ?_ ?_ ?_ _ ?_ _ q1 ?_); rfl; rfl; rfl; rfl)
                  | ((with_reducible refine wpl_string_w 23 9 5 (.tmp 85) rfl rfl ?_ ?_ ?_ _ ?_ _ q2 ?_); rfl; rfl; rfl; rfl))
                go_ret
                exact ⟨rfl, brd.out⟩
            | false =>
              have hne : Hid (xs ≠ ys) := hSFd.out rfl
              by_cases hroot : Ob.rootH xs = Ob.rootH ys
              · have hncl : Hid (¬ Ob.NoClash (Ob.treeL xs ++ Ob.treeL ys)) := fun h => hne.out (Ob.binds xs.length xs ys (Nat.le_refl _) (ismap_asc hmx.out) (ismap_asc hmy.out) (ismap_all hmx.out) (ismap_all hmy.out) h hroot)
                have e1 := str_eq (a := Ob.rootH xs) (b := Ob.rootH ys) true ⟨fun _ => hroot, fun _ => rfl⟩
                have e2 : (Ob.rootH xs == Ob.rootH ys) = true := by simpa using hroot
                clear hroot
                by_cases hlt : i < n
                · have hltI : (i : Int) < (n : Int) := by omega
                  clear hi hlt
                  go_wp2_with (first
                    | ((with_reducible refine wpl_string_w 23 9 5 (.tmp 76) rfl rfl ?_ ?_ ?_ _ ?_ _ q1 ?_); rfl; rfl; rfl; rfl)
                    | ((with_reducible refine wpl_string_w 23 9 5 (.tmp 78) rfl rfl ?_ ?_ ?_ _ ?_ _ q2 ?_); rfl; rfl; rfl; rfl)
                    | ((with_reducible refine wpl_string_w 23 9 5 (.tmp 83) rfl rfl ?_ ?_ ?_ _ ?_ _ q1 ?_); rfl; rfl; rfl; rfl)
                    | ((with_reducible refine wpl_string_w 23 9 5 (.tmp 85) rfl rfl ?_ ?_ ?_ _ ?_ _ q2 ?_); rfl; rfl; rfl; rfl))
                  refine (reftree_any n wr A n c xs (upd.out _ brd.out) (ismap_asc hmx.out) (Nat.le_refl _) (by have := hnd.out; omega) hks.out).mono ?_
                  rintro e w8 ⟨A8, n8, c8, V8, rfl, hr8, ⟨P8, pn8, pc8, rfl, hp8⟩, hb8⟩
                  have b8 : Hid (Below w.heap.size w w8) := brd.out.trans (hb8.mono brd.out.size)
                  have hp8d := Lib.hid hp8
                  clear hr8 hb8 hp8 q1 q2
                  go_wp2_with fail
                  refine (reftree_any m w8 B m d ys (uqd.out _ b8.out) (ismap_asc hmy.out) (Nat.le_refl _) (by have := hmd.out; omega) hks2.out).mono ?_
                  rintro e w9 ⟨A9, n9, c9, V9, rfl, hr9, ⟨P9, pn9, pc9, rfl, hp9⟩, hb9⟩
                  have b9 : Hid (Below w.heap.size w w9) := b8.out.trans (hb9.mono b8.out.size)
                  have hp89 : Hid (RdS w9 (fun i => i < w9.heap.size) P8 pn8 pc8 (Ob.treeL xs)) := (hp8d.out.fr (Fr.of_below (F := fun _ => False) hb9) (fun _ _ h => h)).mono (fun i hi _ => hi)
                  have hp9d : Hid (RdS w9 (fun i => i < w9.heap.size) P9 pn9 pc9 (Ob.treeL ys)) := hp9.mono (fun i hi _ => hi)
                  clear hr9 hb9 hp9
                  obtain ⟨vs2, ro2, hs2⟩ := hp89.out
                  obtain ⟨vs3, ro3, hs3⟩ := hp9d.out
                  have hpl2 : pn8 ≤ 61 ∧ pn9 ≤ 61 := by
                    have q2 := (Ob.treeL_le _ xs (Nat.le_refl _)).1
                    have q3 := (Ob.treeL_le _ ys (Nat.le_refl _)).1
                    have := hp89.out.len
                    have := hp9d.out.len
                    have := hnl.out
                    have := hml.out
                    have := hnd.out
                    have := hmd.out
                    omega
                  have hown := made0_ w9 23 1 w9.heap.size (Nat.le_refl _)
                  have ro2' := ro2.fr ((Fr.refl (fun _ => False) w9).alloc (.cells #[] 23)) (fun _ _ h => h)
                  have hb6 : Below w9.heap.size w9 (w9.alloc (.cells #[] 23)) := (Below.refl _ _).alloc (Nat.le_refl _) _
                  have on2 := hs2.ones
                  have on3 := Lib.hid hs3.ones
                  have ro3d := Lib.hid ro3
                  have hs2d := Lib.hid hs2
                  have hs3d := Lib.hid hs3
                  have hb6d := Lib.hid hb6
                  clear ro2 hs2 ro3 hs3 hb6
                  go_wp2_with (at_builtin; refine wpl_app rfl (.tmp 99) (.tmp 100) 24 rfl w9.heap.size 23 _ 1 24 Tryd.underlying24 infoBytes rfl (by decide) (by decide) _ rfl 0 [] hown _ _ pn8 pc8 rfl _ ro2' on2 (by omega) (by simp) pn8 (Nat.zero_add _) ?h2)
                  case h2 =>
                    intro A6 c6 w6 o6 g6 _
                    have hb7 : Below w9.heap.size w9 w6 := hb6d.out.trans (app_below_ g6 (fun k e => (own_lt hown k e).1) hb6d.out.size)
                    have ro3' := ro3d.out.fr (Fr.of_below (F := fun _ => False) hb7) (fun _ _ h => h)
                    have on3' := on3.out
                    have hb7d := Lib.hid hb7
                    have hs7 := hb7.size
                    clear hown ro2' on2 g6 hb7 hb6d
                    go_wp2_with (at_builtin; refine wpl_app rfl (.tmp 101) (.tmp 102) 24 rfl w9.heap.size 23 _ 1 24 Tryd.underlying24 infoBytes rfl (by decide) (by decide) _ rfl pn8 vs2 o6 _ _ pn9 pc9 rfl _ ro3' on3' (by omega) hs7 (pn8 + pn9) rfl ?h3)
                    case h3 =>
                      intro A7 c7 w7 o7 g7 _
                      have hb8 : Below w9.heap.size w9 w7 := hb7d.out.trans (app_below_ g7 (fun k e => (own_lt o6 k e).1) hs7)
                      have f97 := Fr.of_below (F := fun _ => False) hb8
                      have hLs : RdS w7 (fun _ => True) A7 (pn8 + pn9) c7 (Ob.treeL xs ++ Ob.treeL ys) := ⟨_, (own_row o7).mono (fun _ _ _ => trivial), ((hs2d.out.append hs3d.out).fr f97 (fun _ _ h => h)).mono (fun _ _ _ => trivial)⟩
                      have b7 : Hid (Below w.heap.size w w7) := b9.out.trans (hb8.mono b9.out.size)
                      have hLd := Lib.hid hLs
                      have hpn : Hid (pn8 + pn9 ≤ 10000) := by show _ ≤ _; omega
                      clear o6 g7 o7 ro3' on3' hb8 f97 hLs hs7 hpl2
                      go_wp2_with fail
                      refine (clash_any w7 hLd.out hpn.out (fun u hu => ?_) true ⟨fun _ => hncl.out, fun _ => rfl⟩).mono ?_
                      · rcases List.mem_append.1 hu with h | h
                        · exact Ob.treeL_len _ xs (Nat.le_refl _) hks.out u h
                        · exact Ob.treeL_len _ ys (Nat.le_refl _) hks2.out u h
                      rintro e w10 ⟨rfl, hb10⟩
                      have hb10d : Hid (Below w.heap.size w w10) := b7.out.trans (hb10.mono b7.out.size)
                      clear hb10
                      go_wp2_with fail
                      go_ret
                      exact ⟨rfl, hb10d.out⟩
                · have hltI : ¬ (i : Int) < (n : Int) := by omega
                  clear hi hlt
                  go_wp2_with (first
                    | ((with_reducible refine wpl_string_w 23 9 5 (.tmp 76) rfl rfl ?_ ?_ ?_ _ ?_ _ q1 ?_); rfl; rfl; rfl; rfl)
                    | ((with_reducible refine wpl_string_w 23 9 5 (.tmp 78) rfl rfl ?_ ?_ ?_ _ ?_ _ q2 ?_); rfl; rfl; rfl; rfl)
                    | ((with_reducible refine wpl_string_w 23 9 5 (.tmp 83) rfl rfl ?_ ?_ ?_ _ ?_ _ q1 ?_); rfl; rfl; rfl; rfl)
                    | ((with_reducible refine wpl_string_w 23 9 5 (.tmp 85) rfl rfl ?_ ?_ ?_ _ ?_ _ q2 ?_); rfl; rfl; rfl; rfl))
                  refine (reftree_any n wr A n c xs (upd.out _ brd.out) (ismap_asc hmx.out) (Nat.le_refl _) (by have := hnd.out; omega) hks.out).mono ?_
                  rintro e w8 ⟨A8, n8, c8, V8, rfl, hr8, ⟨P8, pn8, pc8, rfl, hp8⟩, hb8⟩
                  have b8 : Hid (Below w.heap.size w w8) := brd.out.trans (hb8.mono brd.out.size)
                  have hp8d := Lib.hid hp8
                  clear hr8 hb8 hp8 q1 q2
                  go_wp2_with fail
                  refine (reftree_any m w8 B m d ys (uqd.out _ b8.out) (ismap_asc hmy.out) (Nat.le_refl _) (by have := hmd.out; omega) hks2.out).mono ?_
                  rintro e w9 ⟨A9, n9, c9, V9, rfl, hr9, ⟨P9, pn9, pc9, rfl, hp9⟩, hb9⟩
                  have b9 : Hid (Below w.heap.size w w9) := b8.out.trans (hb9.mono b8.out.size)
                  have hp89 : Hid (RdS w9 (fun i => i < w9.heap.size) P8 pn8 pc8 (Ob.treeL xs)) := (hp8d.out.fr (Fr.of_below (F := fun _ => False) hb9) (fun _ _ h => h)).mono (fun i hi _ => hi)
                  have hp9d : Hid (RdS w9 (fun i => i < w9.heap.size) P9 pn9 pc9 (Ob.treeL ys)) := hp9.mono (fun i hi _ => hi)
                  clear hr9 hb9 hp9
                  obtain ⟨vs2, ro2, hs2⟩ := hp89.out
                  obtain ⟨vs3, ro3, hs3⟩ := hp9d.out
                  have hpl2 : pn8 ≤ 61 ∧ pn9 ≤ 61 := by
                    have q2 := (Ob.treeL_le _ xs (Nat.le_refl _)).1
                    have q3 := (Ob.treeL_le _ ys (Nat.le_refl _)).1
                    have := hp89.out.len
                    have := hp9d.out.len
                    have := hnl.out
                    have := hml.out
                    have := hnd.out
                    have := hmd.out
                    omega
                  have hown := made0_ w9 23 1 w9.heap.size (Nat.le_refl _)
                  have ro2' := ro2.fr ((Fr.refl (fun _ => False) w9).alloc (.cells #[] 23)) (fun _ _ h => h)
                  have hb6 : Below w9.heap.size w9 (w9.alloc (.cells #[] 23)) := (Below.refl _ _).alloc (Nat.le_refl _) _
                  have on2 := hs2.ones
                  have on3 := Lib.hid hs3.ones
                  have ro3d := Lib.hid ro3
                  have hs2d := Lib.hid hs2
                  have hs3d := Lib.hid hs3
                  have hb6d := Lib.hid hb6
                  clear ro2 hs2 ro3 hs3 hb6
                  go_wp2_with (at_builtin; refine wpl_app rfl (.tmp 99) (.tmp 100) 24 rfl w9.heap.size 23 _ 1 24 Tryd.underlying24 infoBytes rfl (by decide) (by decide) _ rfl 0 [] hown _ _ pn8 pc8 rfl _ ro2' on2 (by omega) (by simp) pn8 (Nat.zero_add _) ?h2)
                  case h2 =>
                    intro A6 c6 w6 o6 g6 _
                    have hb7 : Below w9.heap.size w9 w6 := hb6d.out.trans (app_below_ g6 (fun k e => (own_lt hown k e).1) hb6d.out.size)
                    have ro3' := ro3d.out.fr (Fr.of_below (F := fun _ => False) hb7) (fun _ _ h => h)
                    have on3' := on3.out
                    have hb7d := Lib.hid hb7
                    have hs7 := hb7.size
                    clear hown ro2' on2 g6 hb7 hb6d
                    go_wp2_with (at_builtin; refine wpl_app rfl (.tmp 101) (.tmp 102) 24 rfl w9.heap.size 23 _ 1 24 Tryd.underlying24 infoBytes rfl (by decide) (by decide) _ rfl pn8 vs2 o6 _ _ pn9 pc9 rfl _ ro3' on3' (by omega) hs7 (pn8 + pn9) rfl ?h3)
                    case h3 =>
                      intro A7 c7 w7 o7 g7 _
                      have hb8 : Below w9.heap.size w9 w7 := hb7d.out.trans (app_below_ g7 (fun k e => (own_lt o6 k e).1) hs7)
                      have f97 := Fr.of_below (F := fun _ => False) hb8
                      have hLs : RdS w7 (fun _ => True) A7 (pn8 + pn9) c7 (Ob.treeL xs ++ Ob.treeL ys) := ⟨_, (own_row o7).mono (fun _ _ _ => trivial), ((hs2d.out.append hs3d.out).fr f97 (fun _ _ h => h)).mono (fun _ _ _ => trivial)⟩
                      have b7 : Hid (Below w.heap.size w w7) := b9.out.trans (hb8.mono b9.out.size)
                      have hLd := Lib.hid hLs
                      have hpn : Hid (pn8 + pn9 ≤ 10000) := by show _ ≤ _; omega
                      clear o6 g7 o7 ro3' on3' hb8 f97 hLs hs7 hpl2
                      go_wp2_with fail
                      refine (clash_any w7 hLd.out hpn.out (fun u hu => ?_) true ⟨fun _ => hncl.out, fun _ => rfl⟩).mono ?_
                      · rcases List.mem_append.1 hu with h | h
                        · exact Ob.treeL_len _ xs (Nat.le_refl _) hks.out u h
                        · exact Ob.treeL_len _ ys (Nat.le_refl _) hks2.out u h
                      rintro e w10 ⟨rfl, hb10⟩
                      have hb10d : Hid (Below w.heap.size w w10) := b7.out.trans (hb10.mono b7.out.size)
                      clear hb10
                      go_wp2_with fail
                      go_ret
                      exact ⟨rfl, hb10d.out⟩
              · have e1 := str_eq (a := Ob.rootH xs) (b := Ob.rootH ys) false ⟨fun h => (by cases h), fun h => (hroot h).elim⟩
                have e2 : (Ob.rootH xs == Ob.rootH ys) = false := by simpa using hroot
                clear hroot
                by_cases hlt : i < n
                · have hltI : (i : Int) < (n : Int) := by omega
                  clear hi hlt
                  go_wp2_with (first
                    | ((with_reducible refine wpl_string_w 23 9 5 (.tmp 76) rfl rfl ?_ ?_ ?_ _ ?_ _ q1 ?_); rfl; rfl; rfl; rfl)
                    | ((with_reducible refine wpl_string_w 23 9 5 (.tmp 78) rfl rfl ?_ ?_ ?_ _ ?_ _ q2 ?_); rfl; rfl; rfl; rfl)
                    | ((with_reducible refine wpl_string_w 23 9 5 (.tmp 83) rfl rfl ?_ ?_ ?_ _ ?_ _ q1 ?_); rfl; rfl; rfl; rfl)
                    | ((with_reducible refine wpl_string_w 23 9 5 (.tmp 85) rfl rfl ?_ ?_ ?_ _ ?_ _ q2 ?_); rfl; rfl; rfl; rfl))
                  go_ret
                  exact ⟨rfl, brd.out⟩
                · have hltI : ¬ (i : Int) < (n : Int) := by omega
                  clear hi hlt
                  go_wp2_with (first
                    | ((with_reducible refine wpl_string_w 23 9 5 (.tmp 76) rfl rfl ?_ ?_ ?_ _ ?_ _ q1 ?_); rfl; rfl; rfl; rfl)
                    | ((with_reducible refine wpl_string_w 23 9 5 (.tmp 78) rfl rfl ?_ ?_ ?_ _ ?_ _ q2 ?_); rfl; rfl; rfl; rfl)
                    | ((with_reducible refine wpl_string_w 23 9 5 (.tmp 83) rfl rfl ?_ ?_ ?_ _ ?_ _ q1 ?_); rfl; rfl; rfl; rfl)
                    | ((with_reducible refine wpl_string_w 23 9 5 (.tmp 85) rfl rfl ?_ ?_ ?_ _ ?_ _ q2 ?_); rfl; rfl; rfl; rfl))
                  go_ret
                  exact ⟨rfl, brd.out⟩
        · refine (refmap_any w2 (uqd.out _ hb2d.out) (by have := hmd.out; omega) (fun x h => (hks2.out x h).1) false ⟨fun h => (by cases h), fun h => (hm h).elim⟩).mono ?_
          rintro e w3 ⟨rfl, hb3⟩
          have hb3d : Hid (Below w.heap.size w w3) := hb2d.out.trans (hb3.mono hb2d.out.size)
          clear hb3
          go_wp2_with fail
          go_ret
          exact ⟨rfl, hb3d.out⟩
      · refine (refmap_any w1 (upd.out _ hb1d.out) (by have := hnd.out; omega) (fun x h => (hks.out x h).1) false ⟨fun h => (by cases h), fun h => (hm h).elim⟩).mono ?_
        rintro e w2 ⟨rfl, hb2⟩
        have hb2d : Hid (Below w.heap.size w w2) := hb1d.out.trans (hb2.mono hb1d.out.size)
        clear hb2
        go_wp2_with fail
        go_ret
        exact ⟨rfl, hb2d.out⟩
    · refine (small_any w1 (uqd.out _ hb1d.out) false ⟨fun h => (by cases h), fun h => (hs2 h).elim⟩).mono ?_
      rintro e w2 ⟨rfl, rfl⟩
      go_wp2_with fail
      go_ret
      exact ⟨rfl, hb1d.out⟩
  · refine (small_any w1 (upd.out _ hb1d.out) false ⟨fun h => (by cases h), fun h => (hs h).elim⟩).mono ?_
    rintro e w2 ⟨rfl, rfl⟩
    go_wp2_with fail
    go_ret
    exact ⟨rfl, hb1d.out⟩
theorem table {W : World} (h : laidMetH Tryd.prog Rows.objecttreeBindsRow.laid W) : Lib.TabIs Tryd.prog W "plexus/sha256.constants" .u32 (Sha.K.map fun (n : Nat) => (n : Int)) :=
  Lib.tabIs_of_head (rest := []) gTab gTabType Tryd.underlying69 Tryd.underlying64 cellsWord cellsTab h
theorem contract (H : Type) (enc : TypeId × Value → H) (W : World) (base : Nat) (args : Array Value) (ds gs : List (DataW H)) (before : List MemPlace)
    (hval : ∀ (j : Nat) t v, Tryd.f8.params[j]? = some t → args[j]? = some v → Value.okWide Tryd.prog W .any base t v)
    (hW : DataW.Whole enc Tryd.prog Tryd.f8.params.toList Rows.objecttreeBindsSpec.vars false W args.toList ds gs before) (hL : laidMetH Tryd.prog Rows.objecttreeBindsRow.laid W) :
    Calls Tryd.prog 8 args W fun e W' => ∃ v, e = .returned v ∧ Rows.objecttreeBindsSpec.post enc Tryd.prog Tryd.f8 false true false false W args v W' := by
  have hW' := hW
  obtain ⟨p, q, hA0, hV, rfl, hfz, hnd⟩ := hW
  have hA : DataW.TrodAll enc Tryd.prog W 0 (fun _ => true) true Tryd.f8.params.toList args.toList ds p := hA0
  rw [Tryd.params8] at hA hval
  obtain ⟨v0, vs0, d0, ds0, p0, q0, hargs, rfl, rfl, h0, r0⟩ := trodAll_cons hA
  obtain ⟨v1, vs1, d1, ds1, p1, q1, rfl, rfl, rfl, h1, r1⟩ := trodAll_cons r0
  obtain ⟨rfl, rfl, rfl⟩ := trodAll_nil r1
  obtain rfl : args = #[v0, v1] := by cases args; simp_all
  obtain ⟨rfl, rfl⟩ := trodVars_none hV
  obtain ⟨a0, len0, cap0, rfl⟩ := okWide_slice Tryd.underlying22 (hval 0 22 v0 rfl rfl)
  obtain ⟨a1, len1, cap1, rfl⟩ := okWide_slice Tryd.underlying22 (hval 1 22 v1 rfl rfl)
  have k0 := h0
  have lt0 : ∀ x ∈ p0, x.block < W.heap.size := by obtain ⟨m, hm⟩ := k0; exact DataW.trod_lt m _ _ _ hm
  obtain ⟨xs0, hri0⟩ := items_of_trod Tryd.underlying22 Tryd.underlying26 (by kernel_rfl) rfl rfl rfl rfl rfl rfl rfl rfl rfl rfl rfl rfl rfl Tryd.underlying9 Tryd.underlying4 (by kernel_rfl) (by kernel_rfl) (by kernel_rfl) (by kernel_rfl) Tryd.underlying23 Tryd.underlying5 (by kernel_rfl) Tryd.underlying24 Tryd.underlying23 (by kernel_rfl) h0
  have k1 := h1
  have lt1 : ∀ x ∈ p1, x.block < W.heap.size := by obtain ⟨m, hm⟩ := k1; exact DataW.trod_lt m _ _ _ hm
  obtain ⟨xs1, hri1⟩ := items_of_trod Tryd.underlying22 Tryd.underlying26 (by kernel_rfl) rfl rfl rfl rfl rfl rfl rfl rfl rfl rfl rfl rfl rfl Tryd.underlying9 Tryd.underlying4 (by kernel_rfl) (by kernel_rfl) (by kernel_rfl) (by kernel_rfl) Tryd.underlying23 Tryd.underlying5 (by kernel_rfl) Tryd.underlying24 Tryd.underlying23 (by kernel_rfl) h1
  clear hA0
  refine (walk W (kst_of_tab (table hL)) hri0 hri1).mono fun e W' ⟨he, bel⟩ => ?_
  subst he
  exact ⟨_, rfl, _, _, _, [], _, [], hW', trodAll_mk1 (shut_bool Tryd.underlying4 _), (trodAll_cons_mk (Below.trod laidOut (by kernel_rfl) (of_decide_eq_true (by kernel_rfl)) k0 bel lt0) (trodAll_cons_mk (Below.trod laidOut (by kernel_rfl) (of_decide_eq_true (by kernel_rfl)) k1 bel lt1) trodAll_mk0)), rfl, bel.frame _, fun h => by cases h⟩
theorem laid_met (os : Os) : laidMet Tryd.prog Rows.objecttreeBindsRow.laid ((laidWorld os).forCall (fun _ _ => 0) ⟨#[], #[.slice none 0 0, .slice none 0 0], []⟩).memory :=
  laidMet_of_run' 8 (by kernel_rfl) (by kernel_rfl)
theorem reads (os : Os) {H : Type} (enc : TypeId × Value → H) : ∃ places, DataW.whole enc Tryd.prog ((laidWorld os).forCall (fun _ _ => 0) ⟨#[], #[.slice none 0 0, .slice none 0 0], []⟩).memory Tryd.f8.params.toList Rows.objecttreeBindsSpec.vars false #[Value.slice none 0 0, .slice none 0 0].toList 8 = some ([.nil, .nil], [], places) :=
  ⟨[], by kernel_rfl⟩
set_option maxRecDepth 100000 in
theorem lifted (os : Os) (started : os.Started) (H : Type) (enc : TypeId × Value → H) (F : Stop.Interp) :
    ReturnsInHanded {} Tryd.checked os 8 .any ((OpenSpec.ofChange Rows.objecttreeBindsSpec).preRow enc Tryd.prog Tryd.f8 Rows.objecttreeBindsRow.domain false Rows.objecttreeBindsRow.laid) (((OpenSpec.ofChange Rows.objecttreeBindsSpec).at F).post enc Tryd.prog Tryd.f8 false true false false) := by
  obtain ⟨places, hx⟩ := reads os enc
  refine returnsInHanded_of_row (C := Tryd.checked) (s := OpenSpec.ofChange Rows.objecttreeBindsSpec) own started (by kernel_rfl) Tryd.func8
    (witness_row_at (enc := enc) (C := Tryd.checked) false (laidWorld os) #[.slice none 0 0, .slice none 0 0] rfl (by kernel_rfl) (by kernel_rfl) (by kernel_rfl)
      (OpenSpec.preRow_of_cond 8 hx (by kernel_rfl) (fun k hk => by cases hk) (by kernel_rfl) (laid_met os))) ?_
  intro W base args ds gs before hval hW _ _ _ hL _ _
  exact contract H enc W base args ds gs before hval hW hL
theorem said : Rows.ObjecttreeBindsSaid :=
  OpenClaim.holds_of_cond 8 Tryd.f8 rfl rfl rfl rfl rfl rfl rfl ⟨rfl, rfl, rfl, rfl, rfl⟩ rfl rfl rfl rfl rfl (by kernel_rfl) Tryd.func8 (by kernel_rfl)
    (of_decide_eq_true (by kernel_rfl)) (by unfold Func.isWrapper; first | (rw [if_pos (by decide +kernel)]; kernel_rfl) | (rw [if_neg (by decide +kernel)]; exact ⟨rfl, rfl⟩))
    (fun os started H enc _ F => by rw [OpenClaim.pre_eq_preRow]; exact lifted os started H enc F)
theorem plain (f : FuncId) (fn : Func) (hf : Tryd.pinned.checked.prog.funcNamed "plexus/plexuslaw40.ObjecttreeBinds" = some f) (hfn : Tryd.pinned.checked.prog.funcs[f]? = some fn) :
    false = Tryd.pinned.checked.prog.looks [] ∧ ∀ (j : Nat) t, fn.params[j]? = some t → Tryd.pinned.checked.prog.wantsStandIn t = false := by
  obtain rfl : f = 8 := Option.some.inj ((show Tryd.prog.funcNamed "plexus/plexuslaw40.ObjecttreeBinds" = some 8 by kernel_rfl).symm.trans hf) |>.symm
  obtain rfl : fn = Tryd.f8 := (Option.some.inj (Tryd.func8.symm.trans hfn)).symm
  refine ⟨by kernel_rfl, fun j t ht => ?_⟩
  rw [Tryd.params8] at ht
  have hm : t = 22 ∨ t = 22 := by simpa using Array.mem_of_getElem? ht
  rcases hm with rfl | rfl
  · exact (show Tryd.prog.wantsStandIn 22 = false by kernel_rfl)
  · exact (show Tryd.prog.wantsStandIn 22 = false by kernel_rfl)
/-- The card. -/
theorem card : Rows.ObjecttreeBindsCardSaid :=
  Claim7.holds_tied_plain_at .later [] _ _ _ _ said (fun _ h => by cases h) (by kernel_rfl) (fun _ h => by cases h) objecttreeBinds_row_tie rfl ⟨rfl, rfl⟩ (by kernel_rfl) rfl plain (by kernel_rfl)
#print axioms card
end Go.Proofs.YthoaenpbmmjokaaDoor.objecttreeBinds

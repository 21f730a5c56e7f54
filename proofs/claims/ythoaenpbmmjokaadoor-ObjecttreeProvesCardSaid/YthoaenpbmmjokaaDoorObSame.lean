/-
  The reference's SameItem, walked.
-/
import Derived.Test.YthoaenpbmmjokaaDoorObPr
namespace Go.Proofs.YthoaenpbmmjokaaDoor
open Go.RowKit Go.Pl
theorem bool_of {r : Bool} {p : Prop} (hr : r = true ↔ p) (h : ¬ p) : r = false := by
  cases hrr : r with
  | false => rfl
  | true => exact absurd (hr.1 hrr) h
theorem str_eq {a b : List UInt8} (r : Bool) (hr : r = true ↔ a = b) : ((⟨a.toArray⟩ : ByteArray).toList == (⟨b.toArray⟩ : ByteArray).toList) = r := by
  rw [Ob.toList_bytes, Ob.toList_bytes]
  cases r with
  | true => simpa using hr.1 rfl
  | false =>
    have : ¬ a = b := fun h => by cases hr.2 h
    simpa using this
set_option maxRecDepth 100000 in
set_option maxHeartbeats 1000000 in
theorem same_any (w : World) {x y : Ob.It} {s p s' p' : Value} (hs : SlIs w (fun _ => True) s x.content) (hp : PathIs w (fun _ => True) p x.path) (hs' : SlIs w (fun _ => True) s' y.content) (hp' : PathIs w (fun _ => True) p' y.path) (r : Bool) (hr : r = true ↔ x = y) :
    Calls Tryd.prog 28 #[.agg (itv x s p).toArray, .agg (itv y s' p').toArray] w fun e w' => e = .returned (.bool r) ∧ Below w.heap.size w w' := by
  have hno : Hid (¬ x = y → r = false) := bool_of hr
  have hrd := Lib.hid hr
  obtain ⟨A, n, c, rfl, hA⟩ := hs
  obtain ⟨A', n', c', rfl, hA'⟩ := hs'
  obtain ⟨B, m, d, rfl, hB⟩ := hp
  obtain ⟨B', m', d', rfl, hB'⟩ := hp'
  have hm : Hid (m = x.path.length) := hB.len
  have hmx : m ≤ 9223372036854775807 := by
    obtain ⟨vs, h1, _⟩ := hB
    have := h1.le
    have := h1.max
    simp only [maxLen] at this
    omega
  have hm' : Hid (m' = y.path.length) := hB'.len
  obtain ⟨w1, hw1⟩ : ∃ v, w.alloc (.cells #[.string ⟨x.key.toArray⟩, .bool x.present, .slice A n c, .slice B m d] 26) = v := ⟨_, rfl⟩
  have hG1 : Blk w1 w.heap.size 26 #[.string ⟨x.key.toArray⟩, .bool x.present, .slice A n c, .slice B m d] := by rw [← hw1]; exact Blk.new' rfl
  have hs1 : w1.heap.size = w.heap.size + 1 := by rw [← hw1]; exact Array.size_push _
  have hb1 : Below w.heap.size w w1 := by rw [← hw1]; exact (Below.refl _ _).alloc (Nat.le_refl _) _
  obtain ⟨w2, hw2⟩ : ∃ v, w1.alloc (.cells #[.string ⟨y.key.toArray⟩, .bool y.present, .slice A' n' c', .slice B' m' d'] 26) = v := ⟨_, rfl⟩
  have hG2 : Blk w2 (w.heap.size + 1) 26 #[.string ⟨y.key.toArray⟩, .bool y.present, .slice A' n' c', .slice B' m' d'] := by rw [← hw2]; exact Blk.new' hs1.symm
  have hG1' : Blk w2 w.heap.size 26 #[.string ⟨x.key.toArray⟩, .bool x.present, .slice A n c, .slice B m d] := by rw [← hw2]; exact hG1.alloc _
  have hb2 : Below w.heap.size w w2 := by rw [← hw2]; exact hb1.alloc hb1.size _
  have hbd := Lib.hid hb2
  have f2 := Fr.of_below (F := fun _ => False) hb2
  have q1 := ((hA.fr f2 (fun _ _ h => h)).bytes (fun i hi _ => hi) : Bytes w2 w2.heap.size _ _)
  have q2 := ((hA'.fr f2 (fun _ _ h => h)).bytes (fun i hi _ => hi) : Bytes w2 w2.heap.size _ _)
  have hBd := Lib.hid (hB.fr f2 (fun _ _ h => h))
  have hBd' := Lib.hid (hB'.fr f2 (fun _ _ h => h))
  have g0 := (hG1'.cell 0).trans rfl
  have g1 := (hG1'.cell 1).trans rfl
  have g2 := (hG1'.cell 2).trans rfl
  have g3 := (hG1'.cell 3).trans rfl
  have k0 := (hG2.cell 0).trans rfl
  have k1 := (hG2.cell 1).trans rfl
  have k2 := (hG2.cell 2).trans rfl
  have k3 := (hG2.cell 3).trans rfl
  have hl2 : Hid (w.heap.size + 1 < w2.heap.size) := hG2.lt
  have hw1d := Lib.hid hw1
  have hw2d := Lib.hid hw2
  clear hw1 hw2 hr hA hA' hB hB' hG1 hs1 hb1 hG2 hG1' hb2 f2
  show Calls Tryd.prog 28 #[.agg #[.string ⟨x.key.toArray⟩, .bool x.present, .slice A n c, .slice B m d], .agg #[.string ⟨y.key.toArray⟩, .bool y.present, .slice A' n' c', .slice B' m' d']] w _
  go_enter Tryd.func28, Tryd.ntmps28
  go_upto_region 1 with fail
  rw [hw1d.out, hw2d.out]
  have e0 := str_eq (a := x.key) (b := y.key)
  by_cases hk : x.key = y.key
  · have e1 := e0 true ⟨fun _ => hk, fun _ => rfl⟩
    have e2 : (x.key == y.key) = true := by simpa using hk
    by_cases hp : x.present = y.present
    · have e3 : (x.present == y.present) = true := by simpa using hp
      have e3b : (x.present != y.present) = false := by simpa using hp
      by_cases hc : x.content = y.content
      · have e4 := str_eq (a := x.content) (b := y.content) true ⟨fun _ => hc, fun _ => rfl⟩
        have e5 : (x.content == y.content) = true := by simpa using hc
        by_cases hl : m = m'
        · have e6 : decide (m = m') = true := by simpa using hl
          have e7 : ((m : Int) != (m' : Int)) = false := by rw [hl]; simp
          have e8 : ((m : Int) == (m' : Int)) = true := by rw [hl]; simp
          have hkd := Lib.hid hk
          have hpd := Lib.hid hp
          have hcd := Lib.hid hc
          have hld := Lib.hid hl
          clear hk hp hc hl e0
          go_wp2_with (first
           | ((with_reducible refine wpl_string_w 23 9 5 (.tmp 20) rfl rfl ?_ ?_ ?_ _ ?_ _ q1 ?_); rfl; rfl; rfl; rfl)
           | ((with_reducible refine wpl_string_w 23 9 5 (.tmp 23) rfl rfl ?_ ?_ ?_ _ ?_ _ q2 ?_); rfl; rfl; rfl; rfl))
          clear e1 e2 e3 e3b e4 e5 e6 e7 e8 q1 q2 g0 g1 g2 k0 k1 k2
          go_loopw [5] (fun t5 wr => ∃ i : Nat, i ≤ m ∧ t5 = .int .i64 i ∧ (∀ j, j < i → x.path[j]? = y.path[j]?) ∧ Ab w2 wr) (fun t5 _ => m - (intOf t5).toNat)
          case atStart => exact ⟨0, by omega, rfl, fun j h => by omega, Ab.refl _⟩
          case round =>
            obtain ⟨i, hi, rfl, hok, hb⟩ := hrel
            have hid := Lib.hid hi
            have hokd := Lib.hid hok
            have hab := Lib.hid hb
            have g3' := (hb.cell (p := ⟨w.heap.size, 3, none⟩) (Nat.lt_of_succ_lt hl2.out)).trans g3
            have k3' := (hb.cell (p := ⟨w.heap.size + 1, 3, none⟩) hl2.out).trans k3
            clear hi hok hb
            by_cases hlt : i < m
            · have hltI : (i : Int) < (m : Int) := by omega
              obtain ⟨u, hu⟩ : ∃ u, x.path[i]? = some u := ⟨_, List.getElem?_eq_getElem (by have := hm.out; omega)⟩
              obtain ⟨v, hv⟩ : ∃ v, y.path[i]? = some v := ⟨_, List.getElem?_eq_getElem (by have := hm'.out; have := hld.out; omega)⟩
              obtain ⟨b1, o1, s1, hBe, -, hbl1, ⟨A1, n1, c1, rfl, r1⟩, d1⟩ := hBd.out.get hu
              obtain ⟨b2, o2, s2, hBe', -, hbl2, ⟨A2, n2, c2, rfl, r2⟩, d2⟩ := hBd'.out.get hv
              subst hBe hBe'
              have hud := Lib.hid hu
              have hvd := Lib.hid hv
              have hlt2 : i < m' := by have := hld.out; omega
              have hlt2I : (i : Int) < (m' : Int) := by omega
              go_upto_region 6 with fail
              have u1 : ∀ w', Ab wr.drew w' → w'.cell? ⟨w.heap.size, 3, none⟩ = some (.slice (some ⟨b1, o1, none⟩) m d) := fun w' h => (Below.cell h (p := ⟨w.heap.size, 3, none⟩) (Nat.lt_of_lt_of_le (Nat.lt_of_succ_lt hl2.out) hab.out.size)).trans g3'
              have u2 : ∀ w', Ab wr.drew w' → w'.cell? ⟨w.heap.size + 1, 3, none⟩ = some (.slice (some ⟨b2, o2, none⟩) m' d') := fun w' h => (Below.cell h (p := ⟨w.heap.size + 1, 3, none⟩) (Nat.lt_of_lt_of_le hl2.out hab.out.size)).trans k3'
              have u3 : ∀ w', Ab wr.drew w' → w'.cell? ⟨b1, o1 + i, none⟩ = some (.slice A1 n1 c1) := fun w' h => (Below.cell h (p := ⟨b1, o1 + i, none⟩) (Nat.lt_of_lt_of_le hbl1 hab.out.size)).trans ((hab.out.cell (p := ⟨b1, o1 + i, none⟩) hbl1).trans d1)
              have u4 : ∀ w', Ab wr.drew w' → w'.cell? ⟨b2, o2 + i, none⟩ = some (.slice A2 n2 c2) := fun w' h => (Below.cell h (p := ⟨b2, o2 + i, none⟩) (Nat.lt_of_lt_of_le hbl2 hab.out.size)).trans ((hab.out.cell (p := ⟨b2, o2 + i, none⟩) hbl2).trans d2)
              have u5 : ∀ w', Ab wr.drew w' → Bytes w' w'.heap.size (.slice A1 n1 c1) u := fun w' h => (((r1.ab hab.out).ab (ab_drew wr)).ab h).bytes (fun i hi _ => hi)
              have u6 : ∀ w', Ab wr.drew w' → Bytes w' w'.heap.size (.slice A2 n2 c2) v := fun w' h => (((r2.ab hab.out).ab (ab_drew wr)).ab h).bytes (fun i hi _ => hi)
              have hab2 : Hid (Ab w2 wr.drew) := Ab.trans _ _ _ hab.out (ab_drew wr)
              by_cases huv : u = v
              · have e1 := str_eq (a := u) (b := v) true ⟨fun _ => huv, fun _ => rfl⟩
                have e2 : (u == v) = true := by simpa using huv
                have huvd := Lib.hid huv
                clear huv hu hv d1 d2 r1 r2 g3' k3'
                refine wp_region_plan Ab Ab.refl Ab.trans [] [0, 1, 2, 3, 4, 5, 6, 7, 8, 9, 10, 11, 12] (by kernel_rfl) (by kernel_rfl) (fun _ _ _ _ _ h => h) ?_
                simp only [wpPlan, ordPick, Option.toList_some, List.cons_append, List.nil_append, List.getElem?_cons_succ, List.getElem?_cons_zero]
                iterate 1 (go_big_quiet_step (exact fun _ => rfl))
                refine wpq_load_one rfl 24 (.tmp 43) rfl ⟨w.heap.size, 3, none⟩ rfl _ u1 _ Tryd.underlying24 rfl ?_
                simp only [Act.put, List.setIfInBounds_toArray, List.set_cons_succ, List.set_cons_zero]
                iterate 2 (go_big_quiet_step (exact fun _ => rfl))
                refine wpq_load_one rfl 23 (.tmp 46) rfl ⟨b1, o1 + i, none⟩ rfl _ u3 _ Tryd.underlying23 rfl ?_
                simp only [Act.put, List.setIfInBounds_toArray, List.set_cons_succ, List.set_cons_zero]
                refine wpq_string rfl 23 9 5 (.tmp 47) rfl Tryd.underlying23 Tryd.underlying5 Tryd.underlying9 A1 n1 c1 rfl u u5 ?_
                simp only [Act.put, List.setIfInBounds_toArray, List.set_cons_succ, List.set_cons_zero]
                iterate 1 (go_big_quiet_step (exact fun _ => rfl))
                refine wpq_load_one rfl 24 (.tmp 49) rfl ⟨w.heap.size + 1, 3, none⟩ rfl _ u2 _ Tryd.underlying24 rfl ?_
                simp only [Act.put, List.setIfInBounds_toArray, List.set_cons_succ, List.set_cons_zero]
                iterate 2 (go_big_quiet_step (exact fun _ => rfl))
                refine wpq_load_one rfl 23 (.tmp 52) rfl ⟨b2, o2 + i, none⟩ rfl _ u4 _ Tryd.underlying23 rfl ?_
                simp only [Act.put, List.setIfInBounds_toArray, List.set_cons_succ, List.set_cons_zero]
                refine wpq_string rfl 23 9 5 (.tmp 53) rfl Tryd.underlying23 Tryd.underlying5 Tryd.underlying9 A2 n2 c2 rfl v u6 ?_
                simp only [Act.put, List.setIfInBounds_toArray, List.set_cons_succ, List.set_cons_zero]
                iterate 1 (go_big_quiet_step (exact fun _ => rfl))
                refine wpQuiet_nil ?_
                go_wp2_with fail
                go_roundw
                case rel =>
                  refine ⟨i + 1, hlt, by go_num, fun j hj => ?_, hab2.out⟩
                  rcases Nat.lt_or_ge j i with h | h
                  · exact hokd.out j h
                  · obtain rfl : j = i := by omega
                    rw [hud.out, hvd.out, huvd.out]
                case measure => simp [intOf]; omega
              · have e1 := str_eq (a := u) (b := v) false ⟨fun h => (by cases h), fun h => (huv h).elim⟩
                have e2 : (u == v) = false := by simpa using huv
                have huvd := Lib.hid huv
                clear huv hu hv d1 d2 r1 r2 g3' k3'
                refine wp_region_plan Ab Ab.refl Ab.trans [] [0, 1, 2, 3, 4, 5, 6, 7, 8, 9, 10, 11, 12] (by kernel_rfl) (by kernel_rfl) (fun _ _ _ _ _ h => h) ?_
                simp only [wpPlan, ordPick, Option.toList_some, List.cons_append, List.nil_append, List.getElem?_cons_succ, List.getElem?_cons_zero]
                iterate 1 (go_big_quiet_step (exact fun _ => rfl))
                refine wpq_load_one rfl 24 (.tmp 43) rfl ⟨w.heap.size, 3, none⟩ rfl _ u1 _ Tryd.underlying24 rfl ?_
                simp only [Act.put, List.setIfInBounds_toArray, List.set_cons_succ, List.set_cons_zero]
                iterate 2 (go_big_quiet_step (exact fun _ => rfl))
                refine wpq_load_one rfl 23 (.tmp 46) rfl ⟨b1, o1 + i, none⟩ rfl _ u3 _ Tryd.underlying23 rfl ?_
                simp only [Act.put, List.setIfInBounds_toArray, List.set_cons_succ, List.set_cons_zero]
                refine wpq_string rfl 23 9 5 (.tmp 47) rfl Tryd.underlying23 Tryd.underlying5 Tryd.underlying9 A1 n1 c1 rfl u u5 ?_
                simp only [Act.put, List.setIfInBounds_toArray, List.set_cons_succ, List.set_cons_zero]
                iterate 1 (go_big_quiet_step (exact fun _ => rfl))
                refine wpq_load_one rfl 24 (.tmp 49) rfl ⟨w.heap.size + 1, 3, none⟩ rfl _ u2 _ Tryd.underlying24 rfl ?_
                simp only [Act.put, List.setIfInBounds_toArray, List.set_cons_succ, List.set_cons_zero]
                iterate 2 (go_big_quiet_step (exact fun _ => rfl))
                refine wpq_load_one rfl 23 (.tmp 52) rfl ⟨b2, o2 + i, none⟩ rfl _ u4 _ Tryd.underlying23 rfl ?_
                simp only [Act.put, List.setIfInBounds_toArray, List.set_cons_succ, List.set_cons_zero]
                refine wpq_string rfl 23 9 5 (.tmp 53) rfl Tryd.underlying23 Tryd.underlying5 Tryd.underlying9 A2 n2 c2 rfl v u6 ?_
                simp only [Act.put, List.setIfInBounds_toArray, List.set_cons_succ, List.set_cons_zero]
                iterate 1 (go_big_quiet_step (exact fun _ => rfl))
                refine wpQuiet_nil ?_
                go_wp2_with fail
                go_ret
                refine ⟨?_, hbd.out.trans (hab2.out.mono hbd.out.size)⟩
                rw [hno.out (fun e => huvd.out (by have h1 := hud.out; have h2 := hvd.out; rw [e, h2] at h1; exact (Option.some.inj h1).symm))]; rfl
            · have hltI : ¬ (i : Int) < (m : Int) := by omega
              go_wp2_with fail
              go_ret
              refine ⟨?_, hbd.out.trans (hab.out.mono hbd.out.size)⟩
              rw [hrd.out.2 ?_]
              · rfl
              · have hpp : x.path = y.path := by
                  apply List.ext_getElem?
                  intro j
                  by_cases hj : j < i
                  · exact hokd.out j hj
                  · have h1 := hm.out
                    have h2 := hm'.out
                    have h3 := hld.out
                    rw [List.getElem?_eq_none (by omega), List.getElem?_eq_none (by omega)]
                have h1 := hkd.out
                have h2 := hpd.out
                have h3 := hcd.out
                cases x
                cases y
                simp_all
        · have e6 : decide (m = m') = false := by simpa using hl
          have e7 : ((m : Int) != (m' : Int)) = true := by simp; omega
          have e8 : ((m : Int) == (m' : Int)) = false := by simp; omega
          have hld := Lib.hid hl
          clear e0 hl
          go_wp2_with (first
           | ((with_reducible refine wpl_string_w 23 9 5 (.tmp 20) rfl rfl ?_ ?_ ?_ _ ?_ _ q1 ?_); rfl; rfl; rfl; rfl)
           | ((with_reducible refine wpl_string_w 23 9 5 (.tmp 23) rfl rfl ?_ ?_ ?_ _ ?_ _ q2 ?_); rfl; rfl; rfl; rfl))
          go_ret
          refine ⟨?_, hbd.out⟩
          rw [hno.out (fun e => hld.out (by rw [hm.out, hm'.out, e]))]; rfl
      · have e4 := str_eq (a := x.content) (b := y.content) false ⟨fun h => (by cases h), fun h => (hc h).elim⟩
        have e5 : (x.content == y.content) = false := by simpa using hc
        have hcd := Lib.hid hc
        clear e0 hc
        go_wp2_with (first
         | ((with_reducible refine wpl_string_w 23 9 5 (.tmp 20) rfl rfl ?_ ?_ ?_ _ ?_ _ q1 ?_); rfl; rfl; rfl; rfl)
         | ((with_reducible refine wpl_string_w 23 9 5 (.tmp 23) rfl rfl ?_ ?_ ?_ _ ?_ _ q2 ?_); rfl; rfl; rfl; rfl))
        go_ret
        refine ⟨?_, hbd.out⟩
        rw [hno.out (fun e => hcd.out (by rw [e]))]; rfl
    · have e3 : (x.present == y.present) = false := by simpa using hp
      have e3b : (x.present != y.present) = true := by simpa using hp
      have hpd := Lib.hid hp
      clear e0 hp
      go_wp2_with (first
       | ((with_reducible refine wpl_string_w 23 9 5 (.tmp 20) rfl rfl ?_ ?_ ?_ _ ?_ _ q1 ?_); rfl; rfl; rfl; rfl)
       | ((with_reducible refine wpl_string_w 23 9 5 (.tmp 23) rfl rfl ?_ ?_ ?_ _ ?_ _ q2 ?_); rfl; rfl; rfl; rfl))
      go_ret
      refine ⟨?_, hbd.out⟩
      rw [hno.out (fun e => hpd.out (by rw [e]))]; rfl
  · have e1 := e0 false ⟨fun h => (by cases h), fun h => (hk h).elim⟩
    have e2 : (x.key == y.key) = false := by simpa using hk
    have hkd := Lib.hid hk
    clear e0 hk
    go_wp2_with (first
     | ((with_reducible refine wpl_string_w 23 9 5 (.tmp 20) rfl rfl ?_ ?_ ?_ _ ?_ _ q1 ?_); rfl; rfl; rfl; rfl)
     | ((with_reducible refine wpl_string_w 23 9 5 (.tmp 23) rfl rfl ?_ ?_ ?_ _ ?_ _ q2 ?_); rfl; rfl; rfl; rfl))
    go_ret
    refine ⟨?_, hbd.out⟩
    rw [hno.out (fun e => hkd.out (by rw [e]))]; rfl
end Go.Proofs.YthoaenpbmmjokaaDoor

/-
  start, walked.
-/
import Derived.Test.YthoaenpbmmjokaaDoorObF
import Derived.Test.YthoaenpbmmjokaaDoorObBy
namespace Go.Proofs.YthoaenpbmmjokaaDoor
open Go.RowKit Go.Pl
/-- What start returns. -/
def StartPost (w : World) (R : Option (List UInt8 × List (List UInt8) × List (List UInt8))) (e : Ending) (w' : World) : Prop :=
  Below w.heap.size w w' ∧ match R with
  | none => e = .returned (.tuple #[.slice none 0 0, .slice none 0 0, .bool false])
  | some (d, _, st) => ∃ A m c B k e', e = .returned (.tuple #[.slice A m c, .slice B k e', .bool true]) ∧ Rd w' (fun _ => True) A m c d ∧ RdS w' (fun _ => True) B k e' st
set_option maxRecDepth 100000 in
set_option maxHeartbeats 1000000 in
theorem start_any (w : World) (hK : Kst w) {x : Ob.It} {A B : Option Addr} {n c m d : Nat} (hA : Rd w (fun _ => True) A n c x.content) (hB : RdS w (fun _ => True) B m d x.path) (hk : x.key.length ≤ 100000) (hc : x.content.length ≤ 1000000) (hm : x.path.length ≤ 1000) (hp : ∀ p ∈ x.path, p.length ≤ 1000000) :
    Calls Tryd.prog 33 #[.agg #[.string ⟨x.key.toArray⟩, .bool x.present, .slice A n c, .slice B m d]] w (StartPost w (Ob.startP x)) := by
  obtain ⟨w1, hw1⟩ : ∃ v, w.alloc (.cells #[.string ⟨x.key.toArray⟩, .bool x.present, .slice A n c, .slice B m d] 26) = v := ⟨_, rfl⟩
  have hG1 : Blk w1 w.heap.size 26 #[.string ⟨x.key.toArray⟩, .bool x.present, .slice A n c, .slice B m d] := by rw [← hw1]; exact Blk.new' rfl
  have hb1 : Below w.heap.size w w1 := by rw [← hw1]; exact (Below.refl _ _).alloc (Nat.le_refl _) _
  have hf1 : Fr (fun _ => False) w w1 := Fr.of_below hb1
  have hA1 := Lib.hid (hA.fr hf1 (fun _ _ h => h))
  have hB1 := Lib.hid (hB.fr hf1 (fun _ _ h => h))
  have hnl : Hid (n = x.content.length) := hA.len
  have hml : Hid (m = x.path.length) := hB.len
  have hb1d := Lib.hid hb1
  have hw1d := Lib.hid hw1
  have hGd := Lib.hid hG1
  have g0 := (hG1.cell 0).trans rfl
  have g1 := (hG1.cell 1).trans rfl
  have g2 := (hG1.cell 2).trans rfl
  have g3 := (hG1.cell 3).trans rfl
  have hkd := Lib.hid hk
  have hcd := Lib.hid hc
  have hmd := Lib.hid hm
  have hpd := Lib.hid hp
  clear hA hB hk hc hm hp hw1 hG1 hb1 hf1
  go_enter Tryd.func33, Tryd.ntmps33
  go_upto_region 1 with fail
  rw [hw1d.out]
  obtain ⟨G, hG⟩ : ∃ G, w.heap.size = G := ⟨_, rfl⟩
  have hGG := Lib.hid hG
  rw [hG] at g0 g1 g2 g3 hGd ⊢
  clear hG
  have lG : Hid (G < w1.heap.size) := hGd.out.lt
  have up : ∀ {j : Nat} {v : Value}, w1.cell? ⟨G, j, none⟩ = some v → ∀ w', Ab w1.drew w' → w'.cell? ⟨G, j, none⟩ = some v := fun hv w' h => (Below.cell h (p := ⟨_, _, none⟩) lG.out).trans hv
  by_cases hpr : x.present = true
  · have hS : Hid (Ob.startP x = some (Ob.leafH x.key x.content, [x.content, Ob.leafB x.key (Sha.sha x.content)], x.path)) := by show _ = _; unfold Ob.startP; rw [if_pos hpr]
    rw [hpr] at g1
    have u0 := up g0
    have u2 := up g2
    have u3 := up g3
    clear up
    go_wp2_with fail
    refine wp_region_late Ab Ab.refl Ab.trans [] (.one [0, 2, 5] [1, 3, 6] 4 (.last [7, 8, 9] [])) (by kernel_rfl) (by kernel_rfl) (fun _ _ _ _ _ h => h) ?_
    simp only [wpSchV, ordPick, Option.toList_some, List.cons_append, List.nil_append, List.getElem?_cons_succ, List.getElem?_cons_zero]
    iterate 3 (go_big_quiet_step (exact fun _ => rfl))
    refine wpQuiet_nil ?_
    refine wpq_load_one rfl 9 (.tmp 9) rfl ⟨G, 0, none⟩ rfl _ u0 _ Tryd.underlying9 rfl ?_
    simp only [Act.put, List.setIfInBounds_toArray, List.set_cons_succ, List.set_cons_zero]
    refine wpq_load_one rfl 23 (.tmp 11) rfl ⟨G, 2, none⟩ rfl _ u2 _ Tryd.underlying23 rfl ?_
    simp only [Act.put, List.setIfInBounds_toArray, List.set_cons_succ, List.set_cons_zero]
    refine wpq_load_one rfl 24 (.tmp 14) rfl ⟨G, 3, none⟩ rfl _ u3 _ Tryd.underlying24 rfl ?_
    simp only [Act.put, List.setIfInBounds_toArray, List.set_cons_succ, List.set_cons_zero]
    refine wpQuiet_nil ?_
    clear u0 u2 u3 g0 g1 g2 g3
    have b2 : Hid (Below w.heap.size w w1.drew) := hb1d.out.trans ((ab_drew w1).mono hb1d.out.size)
    go_wp2_with fail
    refine (leaf_any w1.drew (hK.below b2.out hK.pos) x.key (by have := hkd.out; omega) (hA1.out.ab (ab_drew w1)) hcd.out).mono ?_
    rintro e w3 ⟨A3, n3, c3, rfl, hr3, hb3⟩
    have hr3d := Lib.hid hr3
    have hab3 : Hid (Ab w1.drew w3) := hb3
    have hb3d : Hid (Below w.heap.size w w3) := b2.out.trans (hb3.mono b2.out.size)
    clear hr3 hb3
    go_wp2_with fail
    refine And.intro (.inr hab3.out) ?_
    simp only
    iterate 3 (go_big_quiet_step (exact fun _ => rfl))
    refine wpQuiet_nil (wpQuiet_nil ?_)
    go_wp2_with fail
    go_returns
    rw [hS.out]
    exact ⟨hb3d.out, _, _, _, _, _, _, rfl, hr3d.out.mono (fun _ _ _ => trivial), (hB1.out.fr (Fr.of_below (F := fun _ => False) (ab_drew w1)) (fun _ _ h => h)).fr (Fr.of_below (F := fun _ => False) hab3.out) (fun _ _ h => h)⟩
  · have hpr' : x.present = false := by simpa using hpr
    rw [hpr'] at g1
    by_cases hn0 : n = 0
    · have hct : x.content = [] := List.eq_nil_of_length_eq_zero (by have := hnl.out; omega)
      have hnI : decide (n = 0) = true := by simpa using hn0
      have hnJ : ((n : Int) != 0) = false := by rw [hn0]; rfl
      have hnK : ((n : Int) == 0) = true := by rw [hn0]; rfl
      have hctd := Lib.hid hct
      have hprd := Lib.hid hpr
      clear hct hn0 hpr
      cases hgl : x.path.getLast? with
      | none =>
        have hpn : x.path = [] := by simpa using hgl
        have hS : Hid (Ob.startP x = some (Sha.sha [2], [[2]], [])) := by show _ = _; unfold Ob.startP; rw [if_neg hprd.out, if_pos hctd.out, hgl]
        have hm0 : m = 0 := by have := hml.out; rw [hpn] at this; simpa using this
        subst hm0
        clear up hgl hpn
        go_wp2_with fail
        obtain ⟨w2, hw2⟩ : ∃ v, w1.alloc (.cells #[.int .u8 2] 5) = v := ⟨_, rfl⟩
        have hX : Blk w2 w1.heap.size 5 #[.int .u8 2] := by rw [← hw2]; exact Blk.new' rfl
        have hb2 : Below w.heap.size w w2 := by rw [← hw2]; exact hb1d.out.alloc hb1d.out.size _
        have hs2 : w2.heap.size = w1.heap.size + 1 := by rw [← hw2]; exact Array.size_push _
        rw [hw2, ← hs2]
        obtain ⟨w3, hw3⟩ : ∃ v, w2.alloc (.cells #[.slice (some ⟨w1.heap.size, 0, none⟩) 1 1] 23) = v := ⟨_, rfl⟩
        have hY : Blk w3 w2.heap.size 23 #[.slice (some ⟨w1.heap.size, 0, none⟩) 1 1] := by rw [← hw3]; exact Blk.new' rfl
        have hb23 : Below w2.heap.size w2 w3 := by rw [← hw3]; exact (Below.refl _ _).alloc (Nat.le_refl _) _
        rw [hw3]
        have hb3 := Lib.hid (hb2.trans (hb23.mono hb2.size))
        have hP := parts_one hY (rd_one (x := 2) (hX.below hb23 hX.lt) rfl)
        refine (sums_any w3 (hK.below hb3.out hK.pos) _ 0 1 1 _ _ rfl (by omega) hP (Nat.le_refl _) (by omega) (by simp [Lib.lens])).mono ?_
        rintro e w4 ⟨A3, n3, c3, rfl, hr3, hb4⟩
        have hr4 := Lib.hid (hr3.mono (T := fun _ => True) (fun _ _ _ => trivial))
        have hb4d := Lib.hid (hb3.out.trans (hb4.mono hb3.out.size))
        clear hw2 hw3 hX hY hb2 hb23 hs2 hP hr3 hb4
        go_wp2_with fail
        go_returns
        rw [hS.out]
        exact ⟨hb4d.out, _, _, _, _, _, _, rfl, hr4.out, RdS.nil _ _⟩
      | some l =>
        have hm1 : 1 ≤ m := by
          have := hml.out
          cases hx : x.path with
          | nil => rw [hx] at hgl; simp at hgl
          | cons a b => rw [hx] at this; simp at this; omega
        have hm1000 : m ≤ 1000 := by have := hml.out; have := hmd.out; omega
        have hlast : x.path[m - 1]? = some l := by rw [List.getLast?_eq_getElem?] at hgl; rw [hml.out]; exact hgl
        obtain ⟨b3, o3, s3, hBe, -, hbl3, ⟨A4, n4, c4, rfl, r4⟩, d3⟩ := hB1.out.get hlast
        subst hBe
        have hll : Hid (n4 = l.length) := r4.len
        have hlc : Hid (n4 ≤ c4 ∧ c4 ≤ maxLen) := ⟨r4.le, r4.max⟩
        have hl6 : Hid (l.length ≤ 1000000) := hpd.out l (List.mem_of_getElem? hlast)
        have hn46 : n4 ≤ 1000000 := by have := hll.out; have := hl6.out; omega
        have hmI : decide (m = 0) = false := by simp; omega
        have hmJ : ((m : Int) == 0) = false := by simp; omega
        have hmw : IntKind.i64.wrap ((m : Int) - 1) = ((m - 1 : Nat) : Int) := by rw [IntKind.wrap_i64]; omega
        have hmL : m - 1 < m := by omega
        have hmM : ((m - 1 : Nat) : Int) < (m : Int) := by omega
        have r4d := Lib.hid r4
        have hgld := Lib.hid hgl
        have u0 := up g0
        have u3 := up g3
        clear up hgl hlast
        have hS : Hid (Ob.startP x = if 32 ≤ l.length ∧ l.length ≤ 65568 ∧ l.take (l.length - 32) ≠ x.key then
        some (Sha.sha (Ob.leafB (l.take (l.length - 32)) (l.drop (l.length - 32))), [Ob.leafB (l.take (l.length - 32)) (l.drop (l.length - 32))], x.path.dropLast)
      else none) := by show _ = _; unfold Ob.startP; rw [if_neg hprd.out, if_pos hctd.out, hgld.out]
        by_cases h32 : n4 < 32
        · have h1 : decide (n4 < 32) = true := by simpa using h32
          have h2 : decide ((n4 : Int) < 32) = true := by simp; omega
          have h32d := Lib.hid h32
          clear h32 u0 u3
          go_upto_region 9 with fail
          go_quiet (fail)
          go_wp2_with fail
          go_returns
          rw [hS.out, if_neg (fun h => by have := h32d.out; have := hll.out; omega)]
          exact ⟨hb1d.out.trans ((Fr.refl (fun _ => False) w1).drewN _ |>.below (fun _ h => h.elim) hb1d.out.size), rfl⟩
        · by_cases h65 : n4 ≤ 65568
          · have h1 : decide (n4 < 32) = false := by simp; omega
            have h2 : decide ((n4 : Int) < 32) = false := by simp; omega
            have h3 : decide (65568 < n4) = false := by simp; omega
            have h4 : decide (65568 < (n4 : Int)) = false := by simp; omega
            have hnw : IntKind.i64.wrap ((n4 : Int) - 32) = ((n4 - 32 : Nat) : Int) := by rw [IntKind.wrap_i64]; omega
            have h32c : n4 - 32 ≤ c4 := by have := hlc.out; omega
            have u5 : ∀ w', Ab w1.drew w' → Bytes w' w'.heap.size (.slice A4 (n4 - 32) c4) (l.take (n4 - 32)) := fun w' h => (((r4d.out.to (k := n4 - 32) (by omega)).ab (ab_drew w1)).ab h).bytes (fun i hi _ => hi)
            by_cases hkx : l.take (n4 - 32) = x.key
            · have e1 := str_eq (a := l.take (n4 - 32)) (b := x.key) true ⟨fun _ => hkx, fun _ => rfl⟩
              have e2 : (l.take (n4 - 32) == x.key) = true := by simpa using hkx
              have hkxd := Lib.hid hkx
              clear hkx
              go_upto_region 9 with fail
              refine wp_region_late Ab Ab.refl Ab.trans [] (.last [0] [1, 2, 3, 4, 5, 6, 7, 8, 9, 10, 11, 12, 13, 14, 15, 16, 17, 18]) (by kernel_rfl) (by kernel_rfl) (fun _ _ _ _ _ h => h) ?_
              simp only [wpSchV, ordPick, Option.toList_some, List.cons_append, List.nil_append, List.getElem?_cons_succ, List.getElem?_cons_zero]
              iterate 1 (go_big_quiet_step (exact fun _ => rfl))
              refine wpQuiet_nil ?_
              iterate 12 (go_big_quiet_step (exact fun _ => rfl))
              refine wpq_slice_toz_w rfl 23 (.tmp 45) (.tmp 48) rfl 5 1 Tryd.underlying23 (by kernel_rfl) A4 n4 c4 rfl .i64 (n4 - 32) rfl h32c ?_
              simp only [Act.put, List.setIfInBounds_toArray, List.set_cons_succ, List.set_cons_zero]
              refine wpq_string rfl 23 9 5 (.tmp 49) rfl Tryd.underlying23 Tryd.underlying5 Tryd.underlying9 A4 (n4 - 32) c4 rfl (l.take (n4 - 32)) u5 ?_
              simp only [Act.put, List.setIfInBounds_toArray, List.set_cons_succ, List.set_cons_zero]
              iterate 1 (go_big_quiet_step (exact fun _ => rfl))
              refine wpq_load_w rfl 9 (.tmp 51) rfl ⟨G, 0, none⟩ rfl _ u0 _ Tryd.underlying9 rfl ?_
              simp only [Act.put, List.setIfInBounds_toArray, List.set_cons_succ, List.set_cons_zero]
              iterate 2 (go_big_quiet_step (exact fun _ => rfl))
              refine wpQuiet_nil ?_
              go_wp2_with fail
              go_returns
              rw [hS.out, if_neg (fun h => h.2.2 (by have h1 := hkxd.out; have h2 := hll.out; rw [← h2]; exact h1))]
              exact ⟨hb1d.out.trans ((ab_drew w1).mono hb1d.out.size), rfl⟩
            · have e1 := str_eq (a := l.take (n4 - 32)) (b := x.key) false ⟨fun h => (by cases h), fun h => (hkx h).elim⟩
              have e2 : (l.take (n4 - 32) == x.key) = false := by simpa using hkx
              have hkxd := Lib.hid hkx
              clear hkx
              go_upto_region 9 with fail
              refine wp_region_late Ab Ab.refl Ab.trans [] (.last [0] [1, 2, 3, 4, 5, 6, 7, 8, 9, 10, 11, 12, 13, 14, 15, 16, 17, 18]) (by kernel_rfl) (by kernel_rfl) (fun _ _ _ _ _ h => h) ?_
              simp only [wpSchV, ordPick, Option.toList_some, List.cons_append, List.nil_append, List.getElem?_cons_succ, List.getElem?_cons_zero]
              iterate 1 (go_big_quiet_step (exact fun _ => rfl))
              refine wpQuiet_nil ?_
              iterate 12 (go_big_quiet_step (exact fun _ => rfl))
              refine wpq_slice_toz_w rfl 23 (.tmp 45) (.tmp 48) rfl 5 1 Tryd.underlying23 (by kernel_rfl) A4 n4 c4 rfl .i64 (n4 - 32) rfl h32c ?_
              simp only [Act.put, List.setIfInBounds_toArray, List.set_cons_succ, List.set_cons_zero]
              refine wpq_string rfl 23 9 5 (.tmp 49) rfl Tryd.underlying23 Tryd.underlying5 Tryd.underlying9 A4 (n4 - 32) c4 rfl (l.take (n4 - 32)) u5 ?_
              simp only [Act.put, List.setIfInBounds_toArray, List.set_cons_succ, List.set_cons_zero]
              iterate 1 (go_big_quiet_step (exact fun _ => rfl))
              refine wpq_load_w rfl 9 (.tmp 51) rfl ⟨G, 0, none⟩ rfl _ u0 _ Tryd.underlying9 rfl ?_
              simp only [Act.put, List.setIfInBounds_toArray, List.set_cons_succ, List.set_cons_zero]
              iterate 2 (go_big_quiet_step (exact fun _ => rfl))
              refine wpQuiet_nil ?_
              clear u0 u3 u5 e1 e2
              go_upto_region 11 with fail
              have b2 : Hid (Below w.heap.size w w1.drew) := hb1d.out.trans ((ab_drew w1).mono hb1d.out.size)
              have r42 : Hid (Rd w1.drew (fun _ => True) A4 n4 c4 l) := r4d.out.ab (ab_drew w1)
              have hB2 : Hid (RdS w1.drew (fun _ => True) (some ⟨b3, o3, none⟩) m d x.path) := hB1.out.fr (Fr.of_below (F := fun _ => False) (ab_drew w1)) (fun _ _ h => h)
              have kG2 : Hid (Blk w1.drew G 26 #[.string ⟨x.key.toArray⟩, .bool false, .slice A n c, .slice (some ⟨b3, o3, none⟩) m d]) := by
                have := hGd.out.drew
                rw [hpr'] at this
                exact this
              clear g0 g1 g2 g3 r4 d3
              generalize w1.drew = w2 at b2 r42 hB2 kG2 ⊢
              have v3 : ∀ w', Ab w2.drew w' → w'.cell? ⟨G, 3, none⟩ = some (.slice (some ⟨b3, o3, none⟩) m d) := fun w' h => (Below.cell h (p := ⟨G, 3, none⟩) kG2.out.lt).trans ((kG2.out.cell 3).trans rfl)
              have v5 : ∀ w', Ab w2.drew w' → Bytes w' w'.heap.size (.slice A4 (n4 - 32) c4) (l.take (n4 - 32)) := fun w' h => (((r42.out.to (k := n4 - 32) (by omega)).ab (ab_drew w2)).ab h).bytes (fun i hi _ => hi)
              have hck : ¬ c4 = n4 - 32 := by have := hlc.out; omega
              obtain ⟨A5, hA5⟩ : ∃ A5, (if c4 = n4 - 32 then A4 else A4.map (·.add ((n4 - 32) * 1))) = A5 := ⟨_, rfl⟩
              have r5 := r42.out.from_ (k := n4 - 32) (by omega)
              rw [Nat.mul_one] at hA5
              rw [hA5] at r5
              have hA5d : Hid ((if c4 = n4 - 32 then A4 else A4.map (·.add ((n4 - 32) * 1))) = A5) := by show _ = _; rw [Nat.mul_one]; exact hA5
              have r5d := Lib.hid r5
              have hmd5 : m - 1 ≤ d := by obtain ⟨vs, q1, _⟩ := hB2.out; have := q1.le; omega
              refine wp_region_late Ab Ab.refl Ab.trans [] (.one [0, 1, 6, 7, 12, 14] [2, 3, 4, 5, 8, 9, 10, 13, 15] 11 (.last [16, 17, 18] [])) (by kernel_rfl) (by kernel_rfl) (fun _ _ _ _ _ h => h) ?_
              simp only [wpSchV, ordPick, Option.toList_some, List.cons_append, List.nil_append, List.getElem?_cons_succ, List.getElem?_cons_zero]
              clear hA5 r5 hck
              iterate 6 (go_big_quiet_step (exact fun _ => rfl))
              refine wpQuiet_nil ?_
              iterate 2 (go_big_quiet_step (exact fun _ => rfl))
              refine wpq_slice_toz rfl 23 (.tmp 55) (.tmp 58) rfl 5 1 Tryd.underlying23 (by kernel_rfl) A4 n4 c4 rfl .i64 (n4 - 32) rfl h32c ?_
              simp only [Act.put, List.setIfInBounds_toArray, List.set_cons_succ, List.set_cons_zero]
              refine wpq_string rfl 23 9 5 (.tmp 59) rfl Tryd.underlying23 Tryd.underlying5 Tryd.underlying9 A4 (n4 - 32) c4 rfl (l.take (n4 - 32)) v5 ?_
              simp only [Act.put, List.setIfInBounds_toArray, List.set_cons_succ, List.set_cons_zero]
              iterate 2 (go_big_quiet_step (exact fun _ => rfl))
              refine wpq_slice_fromz rfl 23 (.tmp 61) (.tmp 64) rfl 5 1 Tryd.underlying23 (by kernel_rfl) A4 n4 c4 rfl .i64 (n4 - 32) rfl (by omega) ?_
              rw [hA5d.out]
              simp only [Act.put, List.setIfInBounds_toArray, List.set_cons_succ, List.set_cons_zero]
              refine wpq_load_one rfl 24 (.tmp 67) rfl ⟨G, 3, none⟩ rfl _ v3 _ Tryd.underlying24 rfl ?_
              simp only [Act.put, List.setIfInBounds_toArray, List.set_cons_succ, List.set_cons_zero]
              refine wpq_slice_toz rfl 24 (.tmp 68) (.tmp 69) rfl 23 1 Tryd.underlying24 (by kernel_rfl) (some ⟨b3, o3, none⟩) m d rfl .i64 (m - 1) rfl hmd5 ?_
              simp only [Act.put, List.setIfInBounds_toArray, List.set_cons_succ, List.set_cons_zero]
              refine wpQuiet_nil ?_
              clear v3 v5
              have b3 : Hid (Below w.heap.size w w2.drew) := b2.out.trans ((ab_drew w2).mono b2.out.size)
              have hkl : Hid ((l.take (n4 - 32)).length ≤ 1000000) := by show _ ≤ _; rw [List.length_take]; have := hl6.out; omega
              have hdl : Hid ((l.drop (n4 - 32)).length ≤ 1000000) := by show _ ≤ _; rw [List.length_drop]; have := hl6.out; omega
              obtain ⟨u, hu⟩ : ∃ u, l.take (n4 - 32) = u := ⟨_, rfl⟩
              obtain ⟨v, hv⟩ : ∃ v, l.drop (n4 - 32) = v := ⟨_, rfl⟩
              rw [hu] at hkl ⊢
              rw [hv] at hdl r5d
              have hud := Lib.hid hu
              have hvd := Lib.hid hv
              clear hu hv
              go_wp2_with fail
              refine (leafd_any w2.drew (hK.below b3.out hK.pos) u hkl.out (r5d.out.ab (ab_drew w2)) hdl.out).mono ?_
              rintro e w4 ⟨A6, n6, c6, rfl, hr6, hb6⟩
              have hr6d := Lib.hid hr6
              have hab6 : Hid (Ab w2.drew w4) := hb6
              have hb6d : Hid (Below w.heap.size w w4) := b3.out.trans (hb6.mono b3.out.size)
              clear hr6 hb6
              go_wp2_with fail
              refine And.intro (.inr hab6.out) ?_
              simp only
              iterate 3 (go_big_quiet_step (exact fun _ => rfl))
              refine wpQuiet_nil (wpQuiet_nil ?_)
              go_wp2_with fail
              go_returns
              have hnn := hll.out
              rw [hS.out, if_pos ⟨by omega, by omega, by rw [← hnn, hud.out]; have h := hkxd.out; rw [hud.out] at h; exact h⟩, ← hnn, hud.out, hvd.out]
              refine ⟨hb6d.out, _, _, _, _, _, _, rfl, hr6d.out.mono (fun _ _ _ => trivial), ?_⟩
              have hB3 := ((hB2.out.fr (Fr.of_below (F := fun _ => False) (ab_drew w2)) (fun _ _ h => h)).fr (Fr.of_below (F := fun _ => False) hab6.out) (fun _ _ h => h)).to (k := m - 1) (by omega)
              rw [List.dropLast_eq_take, ← hml.out]
              exact hB3
          · have h1 : decide (n4 < 32) = false := by simp; omega
            have h2 : decide ((n4 : Int) < 32) = false := by simp; omega
            have h3 : decide (65568 < n4) = true := by simp; omega
            have h4 : decide (65568 < (n4 : Int)) = true := by simp; omega
            have h65d := Lib.hid h65
            clear h32 h65 u0 u3
            go_upto_region 9 with fail
            go_quiet (fail)
            go_wp2_with fail
            go_returns
            rw [hS.out, if_neg (fun h => by have := h65d.out; have := hll.out; omega)]
            exact ⟨hb1d.out.trans ((Fr.refl (fun _ => False) w1).drewN _ |>.below (fun _ h => h.elim) hb1d.out.size), rfl⟩
    · have hct : ¬ x.content = [] := fun h => hn0 (by have := hnl.out; rw [h] at this; simpa using this)
      have hS : Hid (Ob.startP x = none) := by show _ = _; unfold Ob.startP; rw [if_neg hpr, if_neg hct]
      have hnI : decide (n = 0) = false := by simpa using hn0
      have hnJ : ((n : Int) != 0) = true := by simp; omega
      have hnK : ((n : Int) == 0) = false := by simp; omega
      clear up hct hn0 hpr
      go_wp2_with fail
      go_returns
      rw [hS.out]
      exact ⟨hb1d.out, rfl⟩
end Go.Proofs.YthoaenpbmmjokaaDoor

/-
  The reference's Same, SameList, Digits, Begins, walked.
-/
import Derived.Test.YtajohibeoicepaaDoorSyRef
import Derived.Test.YtajohibeoicepaaDoorSyUn
import Derived.Test.YtajohibeoicepaaDoorSyOwn
import Derived.Test.YtajohibeoicepaaDoorOrdV
namespace Go.Proofs.YtajohibeoicepaaDoor
open Go.RowKit Go.Pl
set_option maxRecDepth 100000 in
theorem rsame_any (x y : Sy.Cm) (w : World) {A C A' C' : Option Addr} {n c m d n' c' m' d' : Nat} (hx : RdE lWt w (fun _ => True) A n c x.writes) (ht : Rd w (fun _ => True) C m d x.tag) (hz : Sy.csz x ≤ 30000000)
    (hx' : RdE lWt w (fun _ => True) A' n' c' y.writes) (ht' : Rd w (fun _ => True) C' m' d' y.tag) (hz' : Sy.csz y ≤ 30000000) :
    Calls Tryd.prog 31 #[.agg (cmb x A n c C m d), .agg (cmb y A' n' c' C' m' d')] w fun e w' => e = .returned (.bool (Sy.enc x == Sy.enc y)) ∧ Below w.heap.size w w' := by
  have hxd := Lib.hid (And.intro hx ht)
  have hyd := Lib.hid (And.intro hx' ht')
  have hzd := Lib.hid (And.intro hz hz')
  clear hx ht hz hx' ht' hz'
  go_enter Tryd.func31, Tryd.ntmps31
  go_wp2_with fail
  obtain ⟨w1, hw1⟩ : ∃ w1, (w.alloc (.cells (cmb x A n c C m d) 39)).alloc (.cells (cmb y A' n' c' C' m' d') 39) = w1 := ⟨_, rfl⟩
  have hX1 : Hid (Blk w1 w.heap.size 39 (cmb x A n c C m d)) := by show Blk _ _ _ _; rw [← hw1]; exact (Blk.new' rfl).alloc _
  have hY1 : Hid (Blk w1 (w.heap.size + 1) 39 (cmb y A' n' c' C' m' d')) := by show Blk _ _ _ _; rw [← hw1]; exact Blk.new' (by simp)
  have hb1 : Hid (Below w.heap.size w w1) := by show Below _ _ _; rw [← hw1]; exact ((Below.refl _ w).alloc (Nat.le_refl _) _).alloc (by simp) _
  rw [hw1]
  clear hw1
  refine wp_region_late Ab Ab.refl Ab.trans [] (.one [] [0, 3] 1 (.one [] [2] 4 (.last [] [5, 6, 7]))) (by kernel_rfl) (by kernel_rfl) (fun _ _ _ _ _ h => h) ?_
  simp only [wpSchV, ordPick, Option.toList_some, List.cons_append, List.nil_append, List.getElem?_cons_succ, List.getElem?_cons_zero]
  have hbd : Hid (Ab w1 w1.drew) := ab_drew w1
  obtain ⟨w2, hw2⟩ : ∃ w2, w1.drew = w2 := ⟨_, rfl⟩
  rw [hw2] at hbd ⊢
  clear hw2
  have hb2 : Hid (Below w.heap.size w w2) := hb1.out.trans (hbd.out.mono hb1.out.size)
  have hX2 : ∀ w', Ab w2 w' → Blk w' w.heap.size 39 (cmb x A n c C m d) := fun w' h => (hX1.out.fr (Fr.of_below (F := fun _ => False) hbd.out) (fun h => h)).fr (Fr.of_below (F := fun _ => False) h) (fun h => h)
  have hY2 : ∀ w', Ab w2 w' → Blk w' (w.heap.size + 1) 39 (cmb y A' n' c' C' m' d') := fun w' h => (hY1.out.fr (Fr.of_below (F := fun _ => False) hbd.out) (fun h => h)).fr (Fr.of_below (F := fun _ => False) h) (fun h => h)
  refine wpQuiet_nil ?_
  refine wpq_load_partw rfl 39 (.tmp 2) rfl w.heap.size 0 rfl 39 _ hX2 (cmb x A n c C m d) rfl _ Tryd.underlying39 rfl (by kernel_rfl) ?_
  simp only [Act.put, List.setIfInBounds_toArray, List.set_cons_succ, List.set_cons_zero]
  refine wpq_load_partw rfl 39 (.tmp 3) rfl (w.heap.size + 1) 0 rfl 39 _ hY2 (cmb y A' n' c' C' m' d') rfl _ Tryd.underlying39 rfl (by kernel_rfl) ?_
  simp only [Act.put, List.setIfInBounds_toArray, List.set_cons_succ, List.set_cons_zero]
  refine wpQuiet_nil ?_
  clear hX2 hY2
  have hf2 := Fr.of_below (F := fun _ => False) hb2.out
  go_wp2_with fail
  refine (renc_any x w2 (hxd.out.1.fr hf2 (fun _ _ h => h)) (hxd.out.2.fr hf2 (fun _ _ h => h)) hzd.out.1).mono ?_
  rintro e w3 ⟨D3, l3, k3, rfl, hr3, hb3⟩
  have hb3d : Hid (Ab w2 w3) := hb3
  have hb03 : Hid (Below w.heap.size w w3) := hb2.out.trans (hb3.mono hb2.out.size)
  have hr3d := Lib.hid hr3
  clear hr3 hb3 hf2
  go_wp2_with fail
  refine And.intro (.inr hb3d.out) ?_
  simp only
  refine wpQuiet_nil ?_
  refine wpq_string rfl 23 9 5 (.tmp 6) rfl Tryd.underlying23 Tryd.underlying5 Tryd.underlying9 D3 l3 k3 rfl (Sy.enc x) (fun w' h => (hr3d.out.ab h).bytes (fun i hi _ => hi)) ?_
  simp only [Act.put, List.setIfInBounds_toArray, List.set_cons_succ, List.set_cons_zero]
  refine wpQuiet_nil ?_
  have hf3 := Fr.of_below (F := fun _ => False) hb03.out
  go_wp2_with fail
  refine (renc_any y w3 (hyd.out.1.fr hf3 (fun _ _ h => h)) (hyd.out.2.fr hf3 (fun _ _ h => h)) hzd.out.2).mono ?_
  rintro e w4 ⟨D4, l4, k4, rfl, hr4, hb4⟩
  have hb4d : Hid (Ab w3 w4) := hb4
  have hb04 : Hid (Below w.heap.size w w4) := hb03.out.trans (hb4.mono hb03.out.size)
  have hr4d := Lib.hid hr4
  clear hr4 hb4 hf3
  go_wp2_with fail
  refine And.intro (.inr hb4d.out) ?_
  simp only
  refine wpQuiet_nil ?_
  refine wpq_string rfl 23 9 5 (.tmp 9) rfl Tryd.underlying23 Tryd.underlying5 Tryd.underlying9 D4 l4 k4 rfl (Sy.enc y) (fun w' h => (hr4d.out.ab h).bytes (fun i hi _ => hi)) ?_
  simp only [Act.put, List.setIfInBounds_toArray, List.set_cons_succ, List.set_cons_zero]
  iterate 2 (go_big_quiet_step (exact fun _ => rfl))
  refine wpQuiet_nil ?_
  go_wp2_with fail
  go_returns
  exact ⟨rfl, hb04.out⟩
/-- A command in a slice: its cells. -/
theorem cm_at {w : World} {S : Nat → Prop} {A : Option Addr} {n c k : Nat} {l : List Sy.Cm} {x : Sy.Cm} (h : RdE lCm w S A n c l) (hx : l[k]? = some x) : ∃ b o A1 n1 c1 B1 m1 d1, A = some ⟨b, o, none⟩ ∧ b < w.heap.size ∧ RdE lWt w S A1 n1 c1 x.writes ∧ Rd w S B1 m1 d1 x.tag ∧
    w.rangeAt b (o + k * 6) [.int .i64 x.client, .int .i64 x.seq, .int .i64 x.kind, .slice A1 n1 c1, .int .i64 x.replica, .slice B1 m1 d1] := by
  obtain ⟨b, o, u, rfl, -, hb, ⟨A1, n1, c1, B1, m1, d1, rfl, h1, h2⟩, hc⟩ := h.get hx
  exact ⟨b, o, A1, n1, c1, B1, m1, d1, rfl, hb, h1, h2, fun j v hj => hc j v hj⟩
theorem range_ab {w w' : World} {b k : Nat} {vs : List Value} (h : w.rangeAt b k vs) (hb : b < w.heap.size) (ha : Ab w w') : w'.rangeAt b k vs := fun j v hj => (Below.cell ha (p := ⟨b, k + j, none⟩) hb).trans (h j v hj)
theorem map_step {α β : Type} [BEq β] [LawfulBEq β] (f : α → β) {a b : List α} {k : Nat} {x y : α} (hx : a[k]? = some x) (hy : b[k]? = some y) (h : (a.take k).map f = (b.take k).map f) (he : f x = f y) : (a.take (k + 1)).map f = (b.take (k + 1)).map f := by
  obtain ⟨h1, rfl⟩ := List.getElem?_eq_some_iff.1 hx
  obtain ⟨h2, rfl⟩ := List.getElem?_eq_some_iff.1 hy
  rw [List.take_succ_eq_append_getElem h1, List.take_succ_eq_append_getElem h2, List.map_append, List.map_append, h]
  simp [he]
theorem map_off {α β : Type} [BEq β] [LawfulBEq β] (f : α → β) {a b : List α} {k : Nat} {x y : α} (hx : a[k]? = some x) (hy : b[k]? = some y) (he : ¬ f x = f y) : (a.map f == b.map f) = false := by
  rw [Bool.eq_false_iff]
  intro h
  have h := eq_of_beq h
  have h1 : (a.map f)[k]? = some (f x) := by simp [hx]
  have h2 : (b.map f)[k]? = some (f y) := by simp [hy]
  rw [h, h2] at h1
  exact he (Option.some.inj h1).symm
set_option maxRecDepth 100000 in
theorem slist_any (a b : List Sy.Cm) (w : World) {A1 A2 : Option Addr} {n1 c1 n2 c2 : Nat} (ha : RdE lCm w (fun _ => True) A1 n1 c1 a) (hb : RdE lCm w (fun _ => True) A2 n2 c2 b) (hn : n1 ≤ 1000000) (hza : ∀ x ∈ a, Sy.csz x ≤ 30000000) (hzb : ∀ x ∈ b, Sy.csz x ≤ 30000000) :
    Calls Tryd.prog 11 #[.slice A1 n1 c1, .slice A2 n2 c2] w fun e w' => e = .returned (.bool (a.map Sy.enc == b.map Sy.enc)) ∧ Below w.heap.size w w' := by
  have had := Lib.hid ha
  have hbd := Lib.hid hb
  have hla := Lib.hid ha.len
  have hlb := Lib.hid hb.len
  have hzad := Lib.hid hza
  have hzbd := Lib.hid hzb
  clear ha hb hza hzb
  by_cases hne : n1 = n2
  · subst hne
    go_enter Tryd.func11, Tryd.ntmps11
    go_wp2_with fail
    go_loopw [5] (fun t wr => ∃ k : Nat, k ≤ n1 ∧ t = .int .i64 k ∧ (a.take k).map Sy.enc = (b.take k).map Sy.enc ∧ Below w.heap.size w wr) (fun t _ => n1 - (intOf t).toNat)
    case atStart => exact ⟨0, Nat.zero_le _, rfl, by simp, Below.refl _ _⟩
    case round =>
      obtain ⟨k, hk, rfl, hm, hb⟩ := hrel
      have hmd := Lib.hid hm
      have hbr := Lib.hid hb
      clear hm hb
      by_cases hlt : k < n1
      · have hka : k < a.length := by have := hla.out; omega
        have hkb : k < b.length := by have := hlb.out; omega
        obtain ⟨x, hx⟩ : ∃ x, a[k]? = some x := ⟨_, List.getElem?_eq_getElem hka⟩
        obtain ⟨y, hy⟩ : ∃ y, b[k]? = some y := ⟨_, List.getElem?_eq_getElem hkb⟩
        have hfr := Fr.of_below (F := fun _ => False) hbr.out
        obtain ⟨b1, o1, P1, p1, q1, T1, s1, u1, rfl, hbl1, hw1, ht1, hg1⟩ := cm_at (had.out.fr hfr (fun _ _ h => h)) hx
        obtain ⟨b2, o2, P2, p2, q2, T2, s2, u2, rfl, hbl2, hw2, ht2, hg2⟩ := cm_at (hbd.out.fr hfr (fun _ _ h => h)) hy
        have hxd := Lib.hid hx
        have hyd := Lib.hid hy
        have hw1d := Lib.hid (And.intro hw1 ht1)
        have hw2d := Lib.hid (And.intro hw2 ht2)
        have hg1d := Lib.hid (And.intro hg1 hbl1)
        have hg2d := Lib.hid (And.intro hg2 hbl2)
        have hzx : Hid (Sy.csz x ≤ 30000000) := hzad.out x (List.mem_of_getElem? hx)
        have hzy : Hid (Sy.csz y ≤ 30000000) := hzbd.out y (List.mem_of_getElem? hy)
        clear hx hy hw1 ht1 hw2 ht2 hg1 hg2 hbl1 hbl2 hfr hka hkb
        go_wp2_with fail
        refine wp_region_late Ab Ab.refl Ab.trans [] (.one [0, 1, 4, 5] [2, 3, 6, 7] 8 (.last [9] [])) (by kernel_rfl) (by kernel_rfl) (fun _ _ _ _ _ h => h) ?_
        simp only [wpSchV, ordPick, Option.toList_some, List.cons_append, List.nil_append, List.getElem?_cons_succ, List.getElem?_cons_zero]
        have hbd2 : Hid (Ab wr wr.drew) := ab_drew wr
        obtain ⟨w7, hw7⟩ : ∃ w7, wr.drew = w7 := ⟨_, rfl⟩
        rw [hw7] at hbd2 ⊢
        clear hw7
        have g1 : ∀ w', Ab w7 w' → w'.rangeAt b1 (o1 + k * 6) [.int .i64 x.client, .int .i64 x.seq, .int .i64 x.kind, .slice P1 p1 q1, .int .i64 x.replica, .slice T1 s1 u1] := fun w' h => range_ab hg1d.out.1 hg1d.out.2 (Ab.trans _ _ _ hbd2.out h)
        have g2 : ∀ w', Ab w7 w' → w'.rangeAt b2 (o2 + k * 6) [.int .i64 y.client, .int .i64 y.seq, .int .i64 y.kind, .slice P2 p2 q2, .int .i64 y.replica, .slice T2 s2 u2] := fun w' h => range_ab hg2d.out.1 hg2d.out.2 (Ab.trans _ _ _ hbd2.out h)
        iterate 4 (go_big_quiet_step (exact fun _ => rfl))
        refine wpQuiet_nil ?_
        iterate 1 (go_big_quiet_step (exact fun _ => rfl))
        refine wpq_load_midw rfl 39 (.tmp 19) rfl b1 (o1 + k * 6) rfl _ g1 _ Tryd.underlying39 rfl (by kernel_rfl) ?_
        simp only [Act.put, List.setIfInBounds_toArray, List.set_cons_succ, List.set_cons_zero]
        iterate 1 (go_big_quiet_step (exact fun _ => rfl))
        refine wpq_load_midw rfl 39 (.tmp 23) rfl b2 (o2 + k * 6) rfl _ g2 _ Tryd.underlying39 rfl (by kernel_rfl) ?_
        simp only [Act.put, List.setIfInBounds_toArray, List.set_cons_succ, List.set_cons_zero]
        refine wpQuiet_nil ?_
        clear g1 g2
        go_wp2_with fail
        refine (rsame_any x y w7 (hw1d.out.1.fr (Fr.of_below (F := fun _ => False) hbd2.out) (fun _ _ h => h)) (hw1d.out.2.ab hbd2.out) hzx.out (hw2d.out.1.fr (Fr.of_below (F := fun _ => False) hbd2.out) (fun _ _ h => h)) (hw2d.out.2.ab hbd2.out) hzy.out).mono ?_
        rintro e w8 ⟨rfl, hb8⟩
        have hb8d : Hid (Ab w7 w8) := hb8
        have hb08 : Hid (Below w.heap.size w w8) := hbr.out.trans ((Ab.trans _ _ _ hbd2.out hb8).mono hbr.out.size)
        clear hb8
        by_cases hxy : Sy.enc x = Sy.enc y
        · have hxy' : (Sy.enc x == Sy.enc y) = true := by rw [hxy]; simp
          have hxyd := Lib.hid hxy
          rw [hxy']
          clear hxy hxy'
          go_wp2_with fail
          refine And.intro (.inr hb8d.out) ?_
          simp only
          iterate 1 (go_big_quiet_step (exact fun _ => rfl))
          refine wpQuiet_nil (wpQuiet_nil ?_)
          go_wp2_with fail
          go_roundw
          case rel => exact ⟨k + 1, by omega, by go_num, map_step Sy.enc hxd.out hyd.out hmd.out hxyd.out, hb08.out⟩
          case measure => simp [intOf]; omega
        · have hxy' : (Sy.enc x == Sy.enc y) = false := by simpa using hxy
          have hxyd := Lib.hid hxy
          rw [hxy']
          clear hxy hxy'
          go_wp2_with fail
          refine And.intro (.inr hb8d.out) ?_
          simp only
          iterate 1 (go_big_quiet_step (exact fun _ => rfl))
          refine wpQuiet_nil (wpQuiet_nil ?_)
          go_wp2_with fail
          go_returns
          exact ⟨by rw [map_off Sy.enc hxd.out hyd.out hxyd.out]; rfl, hb08.out⟩
      · have hkn := Lib.hid (show k = n1 by omega)
        go_wp2_with fail
        go_returns
        have e1 : a.take k = a := by rw [hkn.out, hla.out]; exact List.take_length
        have e2 : b.take k = b := by rw [hkn.out, hlb.out]; exact List.take_length
        have h := hmd.out
        rw [e1, e2] at h
        exact ⟨by rw [h]; simp, hbr.out⟩
  · have hne' : ((n1 : Int) == (n2 : Int)) = false := by rw [beq_eq_false_iff_ne]; omega
    have hnI : ¬ (n1 : Int) = (n2 : Int) := by omega
    go_enter Tryd.func11, Tryd.ntmps11
    go_wp2_with fail
    go_returns
    have : (a.map Sy.enc == b.map Sy.enc) = false := by
      rw [Bool.eq_false_iff]
      intro h
      have h := congrArg List.length (eq_of_beq h)
      simp at h
      exact hne (by rw [hla.out, hlb.out]; exact h)
    exact ⟨by rw [this]; rfl, Below.refl _ _⟩
end Go.Proofs.YtajohibeoicepaaDoor

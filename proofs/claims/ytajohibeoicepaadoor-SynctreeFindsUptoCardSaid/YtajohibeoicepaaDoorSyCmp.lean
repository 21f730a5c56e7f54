/-
  The order of commands; the reference's Compare, walked.
-/
import Derived.Test.YtajohibeoicepaaDoorSySame
import GoSem.Op.String
namespace Sy
open Go.Op
/-- The order of commands. -/
def cmp (x y : Cm) : Int :=
  if x.client.val = y.client.val then
    (if x.seq.val = y.seq.val then (if enc x = enc y then 0 else if bytesLess (enc x) (enc y) = true then -1 else 1)
    else if x.seq.val < y.seq.val then -1 else 1)
  else if x.client.val < y.client.val then -1 else 1
theorem toList_bytes (bs : List UInt8) : (⟨bs.toArray⟩ : ByteArray).toList = bs := by
  rw [Go.ByteArray.toList_eq]
end Sy
namespace Go.Proofs.YtajohibeoicepaaDoor
open Go.RowKit Go.Pl
theorem sign_any (b : Bool) (w : World) : Calls Tryd.prog 46 #[.bool b] w fun e w' => e = .returned (.int .i64 (if b = true then -1 else 1)) ∧ w = w' := by
  cases b
  · go_enter Tryd.func46, Tryd.ntmps46
    go_wp2_with fail
    go_ret
    exact ⟨rfl, rfl⟩
  · go_enter Tryd.func46, Tryd.ntmps46
    go_wp2_with fail
    go_ret
    exact ⟨rfl, rfl⟩
set_option maxRecDepth 100000 in
theorem cmp_any (x y : Sy.Cm) (w : World) {A C A' C' : Option Addr} {n c m d n' c' m' d' : Nat} (hx : RdE lWt w (fun _ => True) A n c x.writes) (ht : Rd w (fun _ => True) C m d x.tag) (hz : Sy.csz x ≤ 30000000)
    (hx' : RdE lWt w (fun _ => True) A' n' c' y.writes) (ht' : Rd w (fun _ => True) C' m' d' y.tag) (hz' : Sy.csz y ≤ 30000000) :
    Calls Tryd.prog 30 #[.agg (cmb x A n c C m d), .agg (cmb y A' n' c' C' m' d')] w fun e w' => e = .returned (.int .i64 (Sy.cmp x y)) ∧ Below w.heap.size w w' := by
  have hxd := Lib.hid (And.intro hx ht)
  have hyd := Lib.hid (And.intro hx' ht')
  have hzd := Lib.hid (And.intro hz hz')
  clear hx ht hz hx' ht' hz'
  obtain ⟨a1, ha1⟩ : ∃ z, x.client.val = z := ⟨_, rfl⟩
  obtain ⟨a2, ha2⟩ : ∃ z, y.client.val = z := ⟨_, rfl⟩
  obtain ⟨s1, hs1⟩ : ∃ z, x.seq.val = z := ⟨_, rfl⟩
  obtain ⟨s2, hs2⟩ : ∃ z, y.seq.val = z := ⟨_, rfl⟩
  have hcm : Hid (Sy.cmp x y = if a1 = a2 then (if s1 = s2 then (if Sy.enc x = Sy.enc y then 0 else if Go.Op.bytesLess (Sy.enc x) (Sy.enc y) = true then -1 else 1) else if s1 < s2 then -1 else 1) else if a1 < a2 then -1 else 1) := by show _ = _; rw [← ha1, ← ha2, ← hs1, ← hs2]; rfl
  have hcx : Hid (cmb x A n c C m d = #[.int .i64 a1, .int .i64 s1, .int .i64 x.kind, .slice A n c, .int .i64 x.replica, .slice C m d]) := by show _ = _; rw [← ha1, ← hs1]
  have hcy : Hid (cmb y A' n' c' C' m' d' = #[.int .i64 a2, .int .i64 s2, .int .i64 y.kind, .slice A' n' c', .int .i64 y.replica, .slice C' m' d']) := by show _ = _; rw [← ha2, ← hs2]
  rw [hcx.out, hcy.out]
  clear ha1 ha2 hs1 hs2
  have hbw : Hid (Below w.heap.size w ((w.alloc (.cells #[.int .i64 a1, .int .i64 s1, .int .i64 x.kind, .slice A n c, .int .i64 x.replica, .slice C m d] 39)).alloc (.cells #[.int .i64 a2, .int .i64 s2, .int .i64 y.kind, .slice A' n' c', .int .i64 y.replica, .slice C' m' d'] 39))) := ((Below.refl _ w).alloc (Nat.le_refl _) _).alloc (by simp) _
  by_cases h1 : a1 = a2
  · subst h1
    by_cases h2 : s1 = s2
    · subst h2
      go_enter Tryd.func30, Tryd.ntmps30
      go_wp2_with fail
      obtain ⟨w1, hw1⟩ : ∃ w1, (w.alloc (.cells #[.int .i64 a1, .int .i64 s1, .int .i64 x.kind, .slice A n c, .int .i64 x.replica, .slice C m d] 39)).alloc (.cells #[.int .i64 a1, .int .i64 s1, .int .i64 y.kind, .slice A' n' c', .int .i64 y.replica, .slice C' m' d'] 39) = w1 := ⟨_, rfl⟩
      have hX1 : Hid (Blk w1 w.heap.size 39 #[.int .i64 a1, .int .i64 s1, .int .i64 x.kind, .slice A n c, .int .i64 x.replica, .slice C m d]) := by show Blk _ _ _ _; rw [← hw1]; exact (Blk.new' rfl).alloc _
      have hY1 : Hid (Blk w1 (w.heap.size + 1) 39 #[.int .i64 a1, .int .i64 s1, .int .i64 y.kind, .slice A' n' c', .int .i64 y.replica, .slice C' m' d']) := by show Blk _ _ _ _; rw [← hw1]; exact Blk.new' (by simp)
      have hb1 : Hid (Below w.heap.size w w1) := by show Below _ _ _; rw [← hw1]; exact hbw.out
      rw [hw1]
      clear hw1 hbw
      refine wp_region_late Ab Ab.refl Ab.trans [] (.one [] [0, 3] 1 (.one [] [2] 4 (.last [6] [5, 7]))) (by kernel_rfl) (by kernel_rfl) (fun _ _ _ _ _ h => h) ?_
      simp only [wpSchV, ordPick, Option.toList_some, List.cons_append, List.nil_append, List.getElem?_cons_succ, List.getElem?_cons_zero]
      have hbd : Hid (Ab w1 w1.drew) := ab_drew w1
      obtain ⟨w2, hw2⟩ : ∃ w2, w1.drew = w2 := ⟨_, rfl⟩
      rw [hw2] at hbd ⊢
      clear hw2
      have hb2 : Hid (Below w.heap.size w w2) := hb1.out.trans (hbd.out.mono hb1.out.size)
      have hX2 : ∀ w', Ab w2 w' → Blk w' w.heap.size 39 (cmb x A n c C m d) := fun w' h => by rw [hcx.out]; exact (hX1.out.fr (Fr.of_below (F := fun _ => False) hbd.out) (fun h => h)).fr (Fr.of_below (F := fun _ => False) h) (fun h => h)
      have hY2 : ∀ w', Ab w2 w' → Blk w' (w.heap.size + 1) 39 (cmb y A' n' c' C' m' d') := fun w' h => by rw [hcy.out]; exact (hY1.out.fr (Fr.of_below (F := fun _ => False) hbd.out) (fun h => h)).fr (Fr.of_below (F := fun _ => False) h) (fun h => h)
      refine wpQuiet_nil ?_
      refine wpq_load_partw rfl 39 (.tmp 2) rfl w.heap.size 0 rfl 39 _ hX2 (cmb x A n c C m d) rfl _ Tryd.underlying39 rfl (by kernel_rfl) ?_
      simp only [Act.put, List.setIfInBounds_toArray, List.set_cons_succ, List.set_cons_zero]
      refine wpq_load_partw rfl 39 (.tmp 3) rfl (w.heap.size + 1) 0 rfl 39 _ hY2 (cmb y A' n' c' C' m' d') rfl _ Tryd.underlying39 rfl (by kernel_rfl) ?_
      simp only [Act.put, List.setIfInBounds_toArray, List.set_cons_succ, List.set_cons_zero]
      refine wpQuiet_nil ?_
      clear hX2 hY2
      have hf2 := Fr.of_below (F := fun _ => False) hb2.out
      go_wp2_with fail
      refine (renc_any x w2 (hxd.out.1.fr hf2 (fun _ _ h => h)) (hxd.out.2.fr hf2 (fun _ _ h => h)) hzd.out.1).mono ?_
      rintro e w3 ⟨D3, l3, k3, rfl, hr3, hb3⟩
      have hb3d : Hid (Ab w2 w3) := hb3
      have hb03 : Hid (Below w.heap.size w w3) := hb2.out.trans (hb3.mono hb2.out.size)
      have hr3d := Lib.hid hr3
      clear hr3 hb3 hf2
      go_wp2_with fail
      refine And.intro (.inr hb3d.out) ?_
      simp only
      refine wpQuiet_nil ?_
      refine wpq_string rfl 23 9 5 (.tmp 30) rfl Tryd.underlying23 Tryd.underlying5 Tryd.underlying9 D3 l3 k3 rfl (Sy.enc x) (fun w' h => (hr3d.out.ab h).bytes (fun i hi _ => hi)) ?_
      simp only [Act.put, List.setIfInBounds_toArray, List.set_cons_succ, List.set_cons_zero]
      refine wpQuiet_nil ?_
      have hf3 := Fr.of_below (F := fun _ => False) hb03.out
      go_wp2_with fail
      refine (renc_any y w3 (hyd.out.1.fr hf3 (fun _ _ h => h)) (hyd.out.2.fr hf3 (fun _ _ h => h)) hzd.out.2).mono ?_
      rintro e w4 ⟨D4, l4, k4, rfl, hr4, hb4⟩
      have hb4d : Hid (Ab w3 w4) := hb4
      have hb04 : Hid (Below w.heap.size w w4) := hb03.out.trans (hb4.mono hb03.out.size)
      have hr4d := Lib.hid hr4
      clear hr4 hb4 hf3
      go_wp2_with fail
      refine And.intro (.inr hb4d.out) ?_
      simp only
      iterate 1 (go_big_quiet_step (exact fun _ => rfl))
      refine wpQuiet_nil ?_
      refine wpq_string rfl 23 9 5 (.tmp 33) rfl Tryd.underlying23 Tryd.underlying5 Tryd.underlying9 D4 l4 k4 rfl (Sy.enc y) (fun w' h => (hr4d.out.ab h).bytes (fun i hi _ => hi)) ?_
      simp only [Act.put, List.setIfInBounds_toArray, List.set_cons_succ, List.set_cons_zero]
      iterate 1 (go_big_quiet_step (exact fun _ => rfl))
      refine wpQuiet_nil ?_
      by_cases hE : Sy.enc x = Sy.enc y
      · have hE' : (Sy.enc x == Sy.enc y) = true := by rw [hE]; simp
        have hc : Hid (Sy.cmp x y = 0) := by show _ = _; rw [hcm.out]; simp [hE]
        clear hE
        go_wp2_with fail
        go_returns
        exact ⟨by rw [hc.out]; rfl, hb04.out⟩
      · have hE' : (Sy.enc x == Sy.enc y) = false := by simpa using hE
        by_cases hl : Go.Op.bytesLess (Sy.enc x) (Sy.enc y) = true
        · have hl' : Go.Op.bytesLess (⟨(Sy.enc x).toArray⟩ : ByteArray).toList (⟨(Sy.enc y).toArray⟩ : ByteArray).toList = true := by rw [Sy.toList_bytes, Sy.toList_bytes]; exact hl
          have hc : Hid (Sy.cmp x y = -1) := by show _ = _; rw [hcm.out]; simp [hE, hl]
          clear hE
          go_wp2_with fail
          refine (sign_any true w4).mono ?_
          rintro e w5 ⟨rfl, rfl⟩
          go_wp2_with fail
          go_returns
          exact ⟨by rw [hc.out]; rfl, hb04.out⟩
        · have hl' : Go.Op.bytesLess (⟨(Sy.enc x).toArray⟩ : ByteArray).toList (⟨(Sy.enc y).toArray⟩ : ByteArray).toList = false := by rw [Sy.toList_bytes, Sy.toList_bytes]; simpa using hl
          have hc : Hid (Sy.cmp x y = 1) := by show _ = _; rw [hcm.out]; simp [hE, hl]
          clear hE
          go_wp2_with fail
          refine (sign_any false w4).mono ?_
          rintro e w5 ⟨rfl, rfl⟩
          go_wp2_with fail
          go_returns
          exact ⟨by rw [hc.out]; rfl, hb04.out⟩
    · have h2' : (s1 == s2) = false := by simpa using h2
      have h2n : (s1 != s2) = true := by simpa using h2
      by_cases hl : s1 < s2
      · have hc : Hid (Sy.cmp x y = -1) := by show _ = _; rw [hcm.out]; simp [h2, hl]
        have hld : decide (s1 < s2) = true := decide_eq_true hl
        go_enter Tryd.func30, Tryd.ntmps30
        go_wp2_with fail
        refine (sign_any true _).mono ?_
        rintro e w5 ⟨rfl, rfl⟩
        go_wp2_with fail
        go_returns
        exact ⟨by rw [hc.out]; rfl, hbw.out⟩
      · have hc : Hid (Sy.cmp x y = 1) := by show _ = _; rw [hcm.out]; simp [h2, hl]
        have hld : decide (s1 < s2) = false := decide_eq_false hl
        go_enter Tryd.func30, Tryd.ntmps30
        go_wp2_with fail
        refine (sign_any false _).mono ?_
        rintro e w5 ⟨rfl, rfl⟩
        go_wp2_with fail
        go_returns
        exact ⟨by rw [hc.out]; rfl, hbw.out⟩
  · have h1' : (a1 == a2) = false := by simpa using h1
    have h1n : (a1 != a2) = true := by simpa using h1
    by_cases hl : a1 < a2
    · have hc : Hid (Sy.cmp x y = -1) := by show _ = _; rw [hcm.out]; simp [h1, hl]
      have hld : decide (a1 < a2) = true := decide_eq_true hl
      go_enter Tryd.func30, Tryd.ntmps30
      go_wp2_with fail
      refine (sign_any true _).mono ?_
      rintro e w5 ⟨rfl, rfl⟩
      go_wp2_with fail
      go_returns
      exact ⟨by rw [hc.out]; rfl, hbw.out⟩
    · have hc : Hid (Sy.cmp x y = 1) := by show _ = _; rw [hcm.out]; simp [h1, hl]
      have hld : decide (a1 < a2) = false := decide_eq_false hl
      go_enter Tryd.func30, Tryd.ntmps30
      go_wp2_with fail
      refine (sign_any false _).mono ?_
      rintro e w5 ⟨rfl, rfl⟩
      go_wp2_with fail
      go_returns
      exact ⟨by rw [hc.out]; rfl, hbw.out⟩
end Go.Proofs.YtajohibeoicepaaDoor

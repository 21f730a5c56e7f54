/-
  The reference's Has, walked.
-/
import Derived.Test.YtajohibeoicepaaDoorSySame
namespace Go.Proofs.YtajohibeoicepaaDoor
open Go.RowKit Go.Pl
theorem any_step {α : Type} {p : α → Bool} {l : List α} {k : Nat} {x : α} (hx : l[k]? = some x) (h : (l.take k).any p = false) (he : p x = false) : (l.take (k + 1)).any p = false := by
  obtain ⟨h1, rfl⟩ := List.getElem?_eq_some_iff.1 hx
  rw [List.take_succ_eq_append_getElem h1, List.any_append, h]
  simp [he]
set_option maxRecDepth 100000 in
set_option maxHeartbeats 2000000 in
theorem has_any (l : List Sy.Cm) (x : Sy.Cm) (w : World) {A P T : Option Addr} {n c p q s u : Nat} (hl : RdE lCm w (fun _ => True) A n c l) (hn : n ≤ 1000000) (hzl : ∀ y ∈ l, Sy.csz y ≤ 30000000) (hx : RdE lWt w (fun _ => True) P p q x.writes) (ht : Rd w (fun _ => True) T s u x.tag) (hz : Sy.csz x ≤ 30000000) :
    Calls Tryd.prog 20 #[.slice A n c, .agg (cmb x P p q T s u)] w fun e w' => e = .returned (.bool (l.any fun y => Sy.enc y == Sy.enc x)) ∧ Below w.heap.size w w' := by
  have hld := Lib.hid hl
  have hnl := Lib.hid hl.len
  have hzld := Lib.hid hzl
  have hxd := Lib.hid (And.intro hx ht)
  have hzx := Lib.hid hz
  clear hl hzl hx ht hz
  go_enter Tryd.func20, Tryd.ntmps20
  go_wp2_with fail
  obtain ⟨w1, hw1⟩ : ∃ w1, w.alloc (.cells (cmb x P p q T s u) 39) = w1 := ⟨_, rfl⟩
  have hX1 : Hid (Blk w1 w.heap.size 39 (cmb x P p q T s u)) := by show Blk _ _ _ _; rw [← hw1]; exact (Blk.new' rfl)
  have hb1 : Hid (Below w.heap.size w w1) := by show Below _ _ _; rw [← hw1]; exact (Below.refl _ w).alloc (Nat.le_refl _) _
  rw [hw1]
  clear hw1
  go_loopw [5] (fun t wr => ∃ k : Nat, k ≤ n ∧ t = .int .i64 k ∧ ((l.take k).any fun y => Sy.enc y == Sy.enc x) = false ∧ Below w1.heap.size w1 wr) (fun t _ => n - (intOf t).toNat)
  case atStart => exact ⟨0, Nat.zero_le _, rfl, by simp, Below.refl _ _⟩
  case round =>
    obtain ⟨k, hk, rfl, hm, hb⟩ := hrel
    have hmd := Lib.hid hm
    have hbr1 := Lib.hid hb
    have hbr : Hid (Below w.heap.size w wr) := hb1.out.trans (hb.mono hb1.out.size)
    clear hm hb
    by_cases hlt : k < n
    · have hka : k < l.length := by have := hnl.out; omega
      obtain ⟨y, hy⟩ : ∃ y, l[k]? = some y := ⟨_, List.getElem?_eq_getElem hka⟩
      have hfr := Fr.of_below (F := fun _ => False) hbr.out
      obtain ⟨b1, o1, P1, p1, q1, T1, s1, u1, rfl, hbl1, hw1, ht1, hg1⟩ := cm_at (hld.out.fr hfr (fun _ _ h => h)) hy
      have hyd := Lib.hid hy
      have hw1d := Lib.hid (And.intro hw1 ht1)
      have hg1d := Lib.hid (And.intro hg1 hbl1)
      have hzy : Hid (Sy.csz y ≤ 30000000) := hzld.out y (List.mem_of_getElem? hy)
      clear hy hw1 ht1 hg1 hbl1 hfr hka
      go_wp2_with fail
      refine wp_region_late Ab Ab.refl Ab.trans [] (.one [0, 1] [2, 3, 4] 5 (.last [] [])) (by kernel_rfl) (by kernel_rfl) (fun _ _ _ _ _ h => h) ?_
      simp only [wpSchV, ordPick, Option.toList_some, List.cons_append, List.nil_append, List.getElem?_cons_succ, List.getElem?_cons_zero]
      have hbd2 : Hid (Ab wr wr.drew) := ab_drew wr
      obtain ⟨w7, hw7⟩ : ∃ w7, wr.drew = w7 := ⟨_, rfl⟩
      rw [hw7] at hbd2 ⊢
      clear hw7
      have g1 : ∀ w', Ab w7 w' → w'.rangeAt b1 (o1 + k * 6) [.int .i64 y.client, .int .i64 y.seq, .int .i64 y.kind, .slice P1 p1 q1, .int .i64 y.replica, .slice T1 s1 u1] := fun w' h => range_ab hg1d.out.1 hg1d.out.2 (Ab.trans _ _ _ hbd2.out h)
      have hX2 : ∀ w', Ab w7 w' → Blk w' w.heap.size 39 (cmb x P p q T s u) := fun w' h => ((hX1.out.fr (Fr.of_below (F := fun _ => False) hbr1.out) (fun h => h)).fr (Fr.of_below (F := fun _ => False) hbd2.out) (fun h => h)).fr (Fr.of_below (F := fun _ => False) h) (fun h => h)
      iterate 2 (go_big_quiet_step (exact fun _ => rfl))
      refine wpQuiet_nil ?_
      iterate 1 (go_big_quiet_step (exact fun _ => rfl))
      refine wpq_load_midw rfl 39 (.tmp 14) rfl b1 (o1 + k * 6) rfl _ g1 _ Tryd.underlying39 rfl (by kernel_rfl) ?_
      simp only [Act.put, List.setIfInBounds_toArray, List.set_cons_succ, List.set_cons_zero]
      refine wpq_load_partw rfl 39 (.tmp 3) rfl w.heap.size 0 rfl 39 _ hX2 (cmb x P p q T s u) rfl _ Tryd.underlying39 rfl (by kernel_rfl) ?_
      simp only [Act.put, List.setIfInBounds_toArray, List.set_cons_succ, List.set_cons_zero]
      refine wpQuiet_nil ?_
      clear g1 hX2
      have hbw7 : Hid (Below w.heap.size w w7) := hbr.out.trans (hbd2.out.mono hbr.out.size)
      have hf7 := Fr.of_below (F := fun _ => False) hbw7.out
      go_wp2_with fail
      refine (rsame_any y x w7 (hw1d.out.1.fr (Fr.of_below (F := fun _ => False) hbd2.out) (fun _ _ h => h)) (hw1d.out.2.ab hbd2.out) hzy.out (hxd.out.1.fr hf7 (fun _ _ h => h)) (hxd.out.2.fr hf7 (fun _ _ h => h)) hzx.out).mono ?_
      rintro e w8 ⟨rfl, hb8⟩
      have hb8d : Hid (Ab w7 w8) := hb8
      have hb08 : Hid (Below w.heap.size w w8) := hbw7.out.trans (hb8.mono hbw7.out.size)
      have hb18 : Hid (Below w1.heap.size w1 w8) := hbr1.out.trans ((Ab.trans _ _ _ hbd2.out hb8).mono hbr1.out.size)
      clear hb8 hf7
      by_cases hxy : Sy.enc y = Sy.enc x
      · have hxy' : (Sy.enc y == Sy.enc x) = true := by rw [hxy]; simp
        have hxyd := Lib.hid hxy'
        rw [hxy']
        clear hxy hxy'
        go_wp2_with fail
        refine And.intro (.inr hb8d.out) ?_
        simp only
        refine wpQuiet_nil (wpQuiet_nil ?_)
        go_wp2_with fail
        go_returns
        have ha : (l.any fun y => Sy.enc y == Sy.enc x) = true := List.any_eq_true.2 ⟨y, List.mem_of_getElem? hyd.out, hxyd.out⟩
        exact ⟨by rw [ha]; rfl, hb08.out⟩
      · have hxy' : (Sy.enc y == Sy.enc x) = false := by simpa using hxy
        have hxyd := Lib.hid hxy'
        rw [hxy']
        clear hxy hxy'
        go_wp2_with fail
        refine And.intro (.inr hb8d.out) ?_
        simp only
        refine wpQuiet_nil (wpQuiet_nil ?_)
        go_wp2_with fail
        go_roundw
        case rel => exact ⟨k + 1, by omega, by go_num, any_step hyd.out hmd.out hxyd.out, hb18.out⟩
        case measure => simp [intOf]; omega
    · have hkn := Lib.hid (show k = n by omega)
      go_wp2_with fail
      go_returns
      have e1 : l.take k = l := by rw [hkn.out, hnl.out]; exact List.take_length
      have h := hmd.out
      rw [e1] at h
      exact ⟨by rw [h]; rfl, hbr.out⟩
end Go.Proofs.YtajohibeoicepaaDoor

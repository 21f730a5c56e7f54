/-
  The root of a map, walked .
-/
import Derived.Test.YthoaenpbmmjokaaDoorObR
namespace Go.Proofs.YthoaenpbmmjokaaDoor
open Go.RowKit Go.Pl
set_option maxRecDepth 100000 in
theorem root_any : ∀ (m : Nat) (w : World) (_ : Kst w) (A : Option Addr) (n c : Nat) (xs : List Ob.It) (_ : RdI w (fun _ => True) A n c xs) (_ : Ob.Asc xs) (_ : n ≤ m) (_ : m ≤ 1000) (_ : ∀ x ∈ xs, x.key.length ≤ 100000 ∧ x.content.length ≤ 1000000),
    Calls Tryd.prog 32 #[.slice A n c] w fun e w' => ∃ A m d, e = .returned (.slice A m d) ∧ Rd w' (fun i => w.heap.size ≤ i) A m d (Ob.rootH xs) ∧ Below w.heap.size w w' := by
  intro m
  induction m with
  | zero =>
    intro w hK A n c xs hx ha hn hm hxs
    obtain rfl : n = 0 := by omega
    have hxn : xs = [] := List.eq_nil_of_length_eq_zero hx.len.symm
    subst hxn
    go_enter Tryd.func32, Tryd.ntmps32
    go_wp2_with fail
    obtain ⟨w1, hw1⟩ : ∃ x, w.alloc (.cells #[.int .u8 2] 5) = x := ⟨_, rfl⟩
    have hX : Blk w1 w.heap.size 5 #[.int .u8 2] := by rw [← hw1]; exact Blk.new' rfl
    have hb1 : Below w.heap.size w w1 := by rw [← hw1]; exact (Below.refl _ _).alloc (Nat.le_refl _) _
    have hs1 : w1.heap.size = w.heap.size + 1 := by rw [← hw1]; exact Array.size_push _
    rw [hw1, ← hs1]
    obtain ⟨w2, hw2⟩ : ∃ x, w1.alloc (.cells #[.slice (some ⟨w.heap.size, 0, none⟩) 1 1] 23) = x := ⟨_, rfl⟩
    have hY : Blk w2 w1.heap.size 23 #[.slice (some ⟨w.heap.size, 0, none⟩) 1 1] := by rw [← hw2]; exact Blk.new' rfl
    have hb2 : Below w1.heap.size w1 w2 := by rw [← hw2]; exact (Below.refl _ _).alloc (Nat.le_refl _) _
    rw [hw2]
    have hb02 := Lib.hid (hb1.trans (hb2.mono hb1.size))
    have hP := parts_one hY (rd_one (x := 2) (hX.below hb2 hX.lt) rfl)
    refine (sums_any w2 (hK.below hb02.out hK.pos) _ 0 1 1 _ _ rfl (by omega) hP (Nat.le_refl _) (by omega) (by simp [Lib.lens])).mono ?_
    rintro e w3 ⟨A3, n3, c3, rfl, hr3, hb3⟩
    clear hw1 hw2 hX hY hb1 hb2 hs1 hP
    go_wp2_with fail
    go_ret
    exact ⟨_, _, _, rfl, by rw [Ob.rootH_nil]; exact hr3.mono (fun i _ h => Nat.le_trans hb02.out.size h), hb02.out.trans (hb3.mono hb02.out.size)⟩
  | succ m ih =>
    intro w hK A n c xs hx ha hn hm hxs
    by_cases h0 : n = 0
    · exact ih w hK A n c xs hx ha (by omega) (by omega) hxs
    by_cases h1 : n = 1
    · subst h1
      obtain ⟨x, rfl⟩ : ∃ x, xs = [x] := by
        match xs, hx.len with
        | [x], _ => exact ⟨x, rfl⟩
      obtain ⟨b, o, s, p, rfl, -, hbl, ⟨A2, n2, c2, rfl, hs⟩, -, hk, -, hc, -⟩ := hx.get (i := 0) (x := x) rfl
      have up : ∀ {j : Nat} {v : Value}, w.cell? ⟨b, j, none⟩ = some v → ∀ w', Ab w.drew w' → w'.cell? ⟨b, j, none⟩ = some v := fun hv w' h => (Below.cell h (p := ⟨_, _, none⟩) hbl).trans hv
      rw [show o + 0 * 4 = o by omega] at hk hc
      have a0 := up hk
      have a2 := up hc
      have hhx : Hid (x.key.length ≤ 100000 ∧ x.content.length ≤ 1000000) := hxs x (by simp)
      have hsd := Lib.hid hs
      clear up hk hc hs hx ha hxs ih hn h0
      go_enter Tryd.func32, Tryd.ntmps32
      go_wp2_with fail
      refine wp_region_plan Ab Ab.refl Ab.trans [([0, 1, 2, 3, 4, 5, 6, 7], 8)] [9] (by kernel_rfl) (by kernel_rfl) (fun _ _ _ _ _ h => h) ?_
      simp only [wpPlan, ordPick, Option.toList_some, List.cons_append, List.nil_append, List.getElem?_cons_succ, List.getElem?_cons_zero]
      iterate 3 (go_big_quiet_step (exact fun _ => rfl))
      refine wpq_load_one rfl 9 (.tmp 17) rfl ⟨b, o, none⟩ rfl _ a0 _ Tryd.underlying9 rfl ?_
      simp only [Act.put, List.setIfInBounds_toArray, List.set_cons_succ, List.set_cons_zero]
      iterate 3 (go_big_quiet_step (exact fun _ => rfl))
      refine wpq_load_one rfl 23 (.tmp 21) rfl ⟨b, o + 2, none⟩ rfl _ a2 _ Tryd.underlying23 rfl ?_
      simp only [Act.put, List.setIfInBounds_toArray, List.set_cons_succ, List.set_cons_zero]
      refine wpQuiet_nil ?_
      clear a0 a2
      go_wp2_with fail
      refine (leaf_any _ (hK.below (ab_drew w) hK.pos) x.key (by have := hhx.out.1; omega) (hsd.out.fr (Fr.of_below (F := fun _ => False) (ab_drew w)) (fun _ _ h => h)) hhx.out.2).mono ?_
      rintro e w1 ⟨A1, n1, c1, rfl, hr1, hb1⟩
      have hb1d : Hid (Below w.heap.size w w1) := Ab.trans _ _ _ (ab_drew w) hb1
      have hr1d := Lib.hid hr1
      clear hr1
      go_wp2_with fail
      refine And.intro hb1 ?_
      clear hb1
      simp only
      iterate 1 (go_big_quiet_step (exact fun _ => rfl))
      refine wpQuiet_nil ?_
      go_wp2_with fail
      go_ret
      exact ⟨_, _, _, rfl, by rw [Ob.rootH_one]; exact hr1d.out, hb1d.out⟩
    · have h2 : 2 ≤ n := by omega
      have hnl := hx.len
      obtain ⟨x0, x1, t, hx0, hx1, hls, htt, htop, hz0, hz1⟩ := ha.parts (by omega)
      obtain ⟨hxk0, hxk1⟩ : x0.key.length ≤ 100000 ∧ x1.key.length ≤ 100000 := ⟨(hxs _ (List.mem_of_getElem? hx0)).1, (hxs _ (List.mem_of_getElem? hx1)).1⟩
      have htl : t ≤ 1000000 := by
        have := Ob.split_lt (Ob.ne_of_less hls)
        omega
      have hrd := Lib.hid hx
      have hh2 := Lib.hid h2
      have hlen : Hid (n = xs.length) := hnl
      have hac := Lib.hid ha
      have hmm : Hid (n ≤ m + 1 ∧ m + 1 ≤ 1000) := ⟨hn, hm⟩
      have hxd := Lib.hid hxs
      have htd := Lib.hid htop
      have hzd : Hid (0 < Ob.zeros t xs ∧ Ob.zeros t xs < xs.length) := ⟨hz0, hz1⟩
      have htl2 := Lib.hid htl
      have hn0I : ¬ (n : Int) = 0 := by omega
      have hn1I : ¬ (n : Int) = 1 := by omega
      clear hx ha hn hm hxs h0 h1 h2 hnl hx0 hx1 hls htt htop hz0 hz1 hxk0 hxk1 htl
      go_enter Tryd.func32, Tryd.ntmps32
      go_wp2_with fail
      refine (halves_any w hrd.out t htd.out htl2.out hh2.out (by have := hmm.out; omega) (fun x h => (hxd.out x h).1)).mono ?_
      rintro e w1 ⟨k, A', rfl, hk, hl1, hr1, -, hb1⟩
      have hkd := Lib.hid hk
      have hl1d := Lib.hid hl1
      have hr1d := Lib.hid hr1
      have hb1d := Lib.hid hb1
      clear hk hl1 hr1 hb1
      go_wp2_with fail
      refine (ih w1 (hK.below hb1d.out hK.pos) A k c (xs.take k) hl1d.out (hac.out.take k) (by have := hkd.out; have := hzd.out; have := hmm.out; have := hlen.out; omega) (by have := hmm.out; omega) (fun x h => hxd.out x (List.mem_of_mem_take h))).mono ?_
      rintro e w2 ⟨A2, n2, c2, rfl, hr2, hb2⟩
      have hr2d := Lib.hid hr2
      have hb2d := Lib.hid hb2
      clear hr2 hb2
      go_wp2_with fail
      refine (ih w2 (hK.below (hb1d.out.trans (hb2d.out.mono hb1d.out.size)) hK.pos) A' (n - k) (c - k) (xs.drop k) (hr1d.out.fr (Fr.of_below (F := fun _ => False) hb2d.out) (fun _ _ h => h)) (hac.out.drop k) (by have := hkd.out; have := hzd.out; have := hmm.out; have := hlen.out; omega) (by have := hmm.out; omega) (fun x h => hxd.out x (List.mem_of_mem_drop h))).mono ?_
      rintro e w3 ⟨A3, n3, c3, rfl, hr3, hb3⟩
      have hr3d := Lib.hid hr3
      have hb3d := Lib.hid hb3
      clear hr3 hb3
      go_wp2_with fail
      have hb13 : Below w1.heap.size w1 w3 := hb2d.out.trans (hb3d.out.mono hb2d.out.size)
      have hb03 : Below w.heap.size w w3 := hb1d.out.trans (hb13.mono hb1d.out.size)
      refine (node_any w3 (hK.below hb03 hK.pos) t (by have := htl2.out; omega) ((hr2d.out.fr (Fr.of_below (F := fun _ => False) hb3d.out) (fun _ _ h => h)).mono (fun _ _ _ => trivial)) (hr3d.out.mono (fun _ _ _ => trivial)) (by have := Ob.rootH_le (xs.take k); omega) (by have := Ob.rootH_le (xs.drop k); omega)).mono ?_
      rintro e w4 ⟨A4, n4, c4, rfl, hr4, hb4⟩
      have hr4d := Lib.hid hr4
      have hb4d : Hid (Below w.heap.size w w4) := hb03.trans (hb4.mono hb03.size)
      have hb03d := Lib.hid hb03
      clear hr4 hb4 hb13 hb03
      go_wp2_with fail
      go_ret
      refine ⟨_, _, _, rfl, ?_, hb4d.out⟩
      rw [Ob.rootH_two (by have := hlen.out; have := hh2.out; omega) htd.out hzd.out.1 hzd.out.2, ← hkd.out]
      exact hr4d.out.mono (fun i _ h => Nat.le_trans hb03d.out.size h)
end Go.Proofs.YthoaenpbmmjokaaDoor

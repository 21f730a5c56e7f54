/-
  The reference's Tree and Root, walked.
-/
import Derived.Test.YthoaenpbmmjokaaDoorObMap
import Derived.Test.YthoaenpbmmjokaaDoorObChk
import Derived.Test.YthoaenpbmmjokaaDoorObRef
namespace Ob
/-- The byte strings whose digests are taken for the tree of a map. -/
def treeL (xs : List It) : List (List UInt8) :=
  match xs with
  | [] => [[2]]
  | [x] => [x.content, leafB x.key (Sha.sha x.content)]
  | x :: y :: r =>
    if _h : 0 < zeros (top (x :: y :: r)) (x :: y :: r) ∧ zeros (top (x :: y :: r)) (x :: y :: r) < (x :: y :: r).length then
      treeL ((x :: y :: r).take (zeros (top (x :: y :: r)) (x :: y :: r))) ++ treeL ((x :: y :: r).drop (zeros (top (x :: y :: r)) (x :: y :: r))) ++
        [nodeB (top (x :: y :: r)).toNat (rootH ((x :: y :: r).take (zeros (top (x :: y :: r)) (x :: y :: r)))) (rootH ((x :: y :: r).drop (zeros (top (x :: y :: r)) (x :: y :: r))))]
    else []
termination_by xs.length
decreasing_by
  · simp only [List.length_take] at *; omega
  · simp only [List.length_drop] at *; omega
theorem treeL_nil : treeL [] = [[2]] := by rw [treeL]
theorem treeL_one (x : It) : treeL [x] = [x.content, leafB x.key (Sha.sha x.content)] := by rw [treeL]
theorem treeL_two {xs : List It} {t : Nat} (h2 : 2 ≤ xs.length) (ht : top xs = t) (h0 : 0 < zeros t xs) (h1 : zeros t xs < xs.length) :
    treeL xs = treeL (xs.take (zeros t xs)) ++ treeL (xs.drop (zeros t xs)) ++ [nodeB t (rootH (xs.take (zeros t xs))) (rootH (xs.drop (zeros t xs)))] := by
  match xs, h2 with
  | x :: y :: r, _ =>
    rw [treeL, ht, dif_pos ⟨h0, h1⟩]
    rfl
theorem treeL_le : ∀ (m : Nat) (xs : List It), xs.length ≤ m → (treeL xs).length ≤ 3 * xs.length + 1 ∧ (0 < xs.length → (treeL xs).length + 1 ≤ 3 * xs.length)
  | m, [], _ => by rw [treeL_nil]; simp
  | m, [x], _ => by rw [treeL_one]; simp
  | 0, x :: y :: r, h => by simp at h
  | m + 1, x :: y :: r, h => by
    rw [treeL]
    split
    · rename_i hk
      generalize hz : zeros (top (x :: y :: r)) (x :: y :: r) = z at hk ⊢
      have h1 := (treeL_le m ((x :: y :: r).take z) (by rw [List.length_take]; omega)).2 (by rw [List.length_take]; omega)
      have h2 := (treeL_le m ((x :: y :: r).drop z) (by rw [List.length_drop]; omega)).2 (by rw [List.length_drop]; omega)
      rw [List.length_take] at h1
      rw [List.length_drop] at h2
      simp only [List.length_append, List.length_cons, List.length_nil] at *
      omega
    · simp; omega
end Ob
namespace Go.Proofs.YthoaenpbmmjokaaDoor
open Go.RowKit Go.Pl
theorem made0_ (w : World) (e : TypeId) (sz B : Nat) (hB : B ≤ w.heap.size) : (w.alloc (.cells #[] e)).ownsRow B e sz (.slice (some ⟨w.heap.size, 0, none⟩) 0 0) 0 [] :=
  ⟨by simp, .inr ⟨w.heap.size, 0, #[], rfl, hB, heap_alloc_new w _, Nat.le_refl _, by simp [maxLen], by simp, by simp⟩⟩
theorem app_below_ {B : Nat} {w w' : World} {row : Option Nat} (hg : w.grownBy w' row) (hr : ∀ k, row = some k → B ≤ k) (hB : B ≤ w.heap.size) : Below B w w' :=
  ((Fr.refl (fun i => B ≤ i) w).grown hg (fun k e => .inl (hr k e))).below (fun _ h => h) hB
theorem infoBytes : (Tryd.prog.info? 23).map (fun i => (i.zero, i.size, i.bytes)) = some (some (.slice none 0 0), 1, 24) := by kernel_rfl
set_option maxRecDepth 100000 in
theorem reftree_any : ∀ (m : Nat) (w : World) (A : Option Addr) (n c : Nat) (xs : List Ob.It) (_ : RdI w (fun _ => True) A n c xs) (_ : Ob.Asc xs) (_ : n ≤ m) (_ : m ≤ 1000) (_ : ∀ x ∈ xs, x.key.length ≤ 100000 ∧ x.content.length ≤ 1000000),
    Calls Tryd.prog 17 #[.slice A n c] w fun e w' => ∃ A m d V, e = .returned (.tuple #[.slice A m d, V]) ∧ Rd w' (fun i => w.heap.size ≤ i) A m d (Ob.rootH xs) ∧ PathIs w' (fun _ => True) V (Ob.treeL xs) ∧ Below w.heap.size w w' := by
  intro m
  induction m with
  | zero =>
    intro w A n c xs hx ha hn hm hxs
    obtain rfl : n = 0 := by omega
    have hxn : xs = [] := List.eq_nil_of_length_eq_zero hx.len.symm
    subst hxn
    go_enter Tryd.func17, Tryd.ntmps17
    go_wp2_with fail
    obtain ⟨w1, hw1⟩ : ∃ x, w.alloc (.cells #[.int .u8 2] 5) = x := ⟨_, rfl⟩
    have hX : Blk w1 w.heap.size 5 #[.int .u8 2] := by rw [← hw1]; exact Blk.new' rfl
    have hb1 : Hid (Below w.heap.size w w1) := by show Below _ _ _; rw [← hw1]; exact (Below.refl _ _).alloc (Nat.le_refl _) _
    rw [hw1]
    refine (refsums_any w1 (rd_one (x := 2) hX rfl) (by simp)).mono ?_
    rintro e w2 ⟨A2, n2, c2, rfl, hr2, hb2⟩
    have hr2d := Lib.hid hr2
    have hb2d : Hid (Below w.heap.size w w2) := hb1.out.trans (hb2.mono hb1.out.size)
    clear hw1 hX hr2 hb2 hx ha hxs hn hm
    go_wp2_with fail
    go_returns
    have hf1 := (Fr.refl (fun _ => False) w2).alloc (.cells #[.int .u8 2] 5)
    have hs1 : (w2.alloc (.cells #[.int .u8 2] 5)).heap.size = w2.heap.size + 1 := Array.size_push _
    have hY := Row.new (w2.alloc (.cells #[.int .u8 2] 5)) 23 #[.slice (some ⟨w2.heap.size, 0, none⟩) 1 1] (sz := 1) (n := 1) _ rfl rfl (by decide)
    rw [hs1] at hY
    have hZ : Rd (w2.alloc (.cells #[.int .u8 2] 5)) (fun _ => True) (some ⟨w2.heap.size, 0, none⟩) 1 1 [2] := rd_one (x := 2) (Blk.new' rfl) rfl
    refine ⟨_, _, _, _, rfl, ?_, ⟨_, _, _, rfl, _, hY.mono (fun _ _ _ => trivial), ?_⟩, ?_⟩
    · rw [Ob.rootH_nil]
      exact (hr2d.out.fr (hf1.alloc _) (fun _ _ h => h)).mono (fun i _ h => Nat.le_trans hb1.out.size h)
    · rw [Ob.treeL_nil]
      exact SlsIs.one ⟨_, _, _, rfl, hZ.fr ((Fr.refl (fun _ => False) _).alloc _) (fun _ _ h => h)⟩
    · exact (hb2d.out.alloc hb2d.out.size _).alloc (by have := hb2d.out.size; omega) _
  | succ m ih =>
    intro w A n c xs hx ha hn hm hxs
    by_cases h0 : n = 0
    · exact ih w A n c xs hx ha (by omega) (by omega) hxs
    by_cases h1 : n = 1
    · subst h1
      obtain ⟨x, rfl⟩ : ∃ x, xs = [x] := by
        match xs, hx.len with
        | [x], _ => exact ⟨x, rfl⟩
      obtain ⟨b, o, s, p, rfl, -, hbl, ⟨A2, n2, c2, rfl, hs⟩, -, hk, -, hc, -⟩ := hx.get (i := 0) (x := x) rfl
      have up : ∀ {j : Nat} {v : Value}, w.cell? ⟨b, j, none⟩ = some v → ∀ w', Ab w.drew w' → w'.cell? ⟨b, j, none⟩ = some v := fun hv w' h => (Below.cell h (p := ⟨_, _, none⟩) hbl).trans hv
      rw [show o + 0 * 4 = o by omega] at hk hc
      have a0 := up hk
      have a2 := up hc
      have hhx : Hid (x.key.length ≤ 100000 ∧ x.content.length ≤ 1000000) := hxs x (by simp)
      have hsd := Lib.hid hs
      have hcd := Lib.hid hc
      have hbld := Lib.hid hbl
      clear up hk hs hx ha hxs ih hn h0 hc
      go_enter Tryd.func17, Tryd.ntmps17
      go_wp2_with fail
      refine wp_region_plan Ab Ab.refl Ab.trans [([0, 1, 2, 3, 4, 5, 6, 7], 8), ([], 9)] [10] (by kernel_rfl) (by kernel_rfl) (fun _ _ _ _ _ h => h) ?_
      simp only [wpPlan, ordPick, Option.toList_some, List.cons_append, List.nil_append, List.getElem?_cons_succ, List.getElem?_cons_zero]
      iterate 3 (go_big_quiet_step (exact fun _ => rfl))
      refine wpq_load_one rfl 9 (.tmp 24) rfl ⟨b, o, none⟩ rfl _ a0 _ Tryd.underlying9 rfl ?_
      simp only [Act.put, List.setIfInBounds_toArray, List.set_cons_succ, List.set_cons_zero]
      iterate 3 (go_big_quiet_step (exact fun _ => rfl))
      refine wpq_load_one rfl 23 (.tmp 28) rfl ⟨b, o + 2, none⟩ rfl _ a2 _ Tryd.underlying23 rfl ?_
      simp only [Act.put, List.setIfInBounds_toArray, List.set_cons_succ, List.set_cons_zero]
      refine wpQuiet_nil ?_
      clear a0 a2
      go_wp2_with fail
      refine (refsums_any _ (hsd.out.ab (ab_drew w)) (by have := hhx.out.2; omega)).mono ?_
      rintro e w1 ⟨A1, n1, c1, rfl, hr1, hb1⟩
      have hb1d : Hid (Below w.heap.size w w1) := Ab.trans _ _ _ (ab_drew w) hb1
      have hr1d := Lib.hid hr1
      clear hr1
      go_wp2_with fail
      refine And.intro hb1 ?_
      clear hb1
      simp only
      refine wpQuiet_nil ?_
      go_wp2_with fail
      refine (refleafd_any w1 x.key (by have := hhx.out.1; omega) (hr1d.out.mono (fun _ _ _ => trivial)) (by rw [Sha.length_sha]; decide)).mono ?_
      rintro e w3 ⟨A3, n3, c3, rfl, hr3, hb3⟩
      have hb3d : Hid (Below w.heap.size w w3) := hb1d.out.trans (hb3.mono hb1d.out.size)
      have hr3d := Lib.hid hr3
      have hl3 : Hid ((Ob.leafB x.key (Sha.sha x.content)).length ≤ 70368744177664) := by show _ ≤ _; have := hhx.out.1; simp [Ob.leafB, Ob.num_len, Sha.length_sha]; omega
      clear hr3
      go_wp2_with fail
      refine And.intro hb3 ?_
      clear hb3
      simp only
      iterate 1 (go_big_quiet_step (exact fun _ => rfl))
      refine wpQuiet_nil ?_
      go_wp2_with fail
      refine wp_region_late Ab Ab.refl Ab.trans [] (.two [0, 2, 6] [3, 4, 5] 1 (.one [8] [] 7 (.last [9] [])) 7 (.one [] [] 1 (.last [8, 9] []))) (by kernel_rfl) (by kernel_rfl) (fun _ _ _ _ _ h => h) ?_
      simp only [wpSchV, ordPick, Option.toList_some, List.cons_append, List.nil_append, List.getElem?_cons_succ, List.getElem?_cons_zero]
      have hb4 : Hid (Below w.heap.size w w3.drew) := hb3d.out.trans ((ab_drew w3).mono hb3d.out.size)
      have hr4 : Hid (Rd w3.drew (fun _ => True) A3 n3 c3 (Ob.leafB x.key (Sha.sha x.content))) := (hr3d.out.ab (ab_drew w3)).mono (fun _ _ _ => trivial)
      have hc4 : Hid (Rd w3.drew (fun _ => True) A2 n2 c2 x.content) := hsd.out.fr (Fr.of_below (F := fun _ => False) hb4.out) (fun _ _ h => h)
      have a2 : ∀ w', Ab w3.drew w' → w'.cell? ⟨b, o + 2, none⟩ = some (.slice A2 n2 c2) := fun w' h => ((Below.cell h (p := ⟨_, _, none⟩) (Nat.lt_of_lt_of_le hbld.out hb4.out.size)).trans (hb4.out.cell (p := ⟨_, _, none⟩) hbld.out)).trans hcd.out
      clear hr3d hb3d hr1d hb1d
      generalize w3.drew = w4 at hb4 hr4 hc4 a2 ⊢
      iterate 3 (go_big_quiet_step (exact fun _ => rfl))
      refine wpQuiet_nil ?_
      iterate 2 (go_big_quiet_step (exact fun _ => rfl))
      refine wpq_load_one rfl 23 (.tmp 36) rfl ⟨b, o + 2, none⟩ rfl _ a2 _ Tryd.underlying23 rfl ?_
      simp only [Act.put, List.setIfInBounds_toArray, List.set_cons_succ, List.set_cons_zero]
      refine wpQuiet_nil ?_
      clear a2
      refine And.intro ?_ ?_
      · go_wp2_with fail
        refine (refsums_any w4 hr4.out hl3.out).mono ?_
        rintro e w5 ⟨A5, n5, c5, rfl, hr5, hb5⟩
        have hr5d := Lib.hid hr5
        have hb5d : Hid (Below w.heap.size w w5) := hb4.out.trans (hb5.mono hb4.out.size)
        have hb45 : Hid (Ab w4 w5) := hb5
        clear hr5 hb5
        go_wp2_with fail
        refine And.intro (.inr hb45.out) ?_
        simp only
        iterate 1 (go_big_quiet_step (exact fun _ => rfl))
        refine wpQuiet_nil (wpQuiet_nil ?_)
        go_wp2_with fail
        refine And.intro (.inr ((Below.refl _ _).alloc (Nat.le_refl _) _)) ?_
        simp only
        iterate 1 (go_big_quiet_step (exact fun _ => rfl))
        refine wpQuiet_nil (wpQuiet_nil ?_)
        go_wp2_with fail
        go_returns
        have hf := (Fr.refl (fun _ => False) w5).alloc (.cells #[.slice A2 n2 c2, .slice A3 n3 c3] 23)
        have hY := Row.new w5 23 #[.slice A2 n2 c2, .slice A3 n3 c3] (sz := 1) (n := 2) _ rfl rfl (by decide)
        refine ⟨_, _, _, _, rfl, ?_, ⟨_, _, _, rfl, _, hY.mono (fun _ _ _ => trivial), ?_⟩, ?_⟩
        · rw [Ob.rootH_one]
          exact (hr5d.out.fr hf (fun _ _ h => h)).mono (fun i _ h => Nat.le_trans hb4.out.size h)
        · rw [Ob.treeL_one]
          exact ⟨_, _, rfl, ⟨_, _, _, rfl, (hc4.out.ab hb45.out).fr hf (fun _ _ h => h)⟩, SlsIs.one ⟨_, _, _, rfl, (hr4.out.ab hb45.out).fr hf (fun _ _ h => h)⟩⟩
        · exact hb5d.out.alloc hb5d.out.size _
      · go_wp2_with fail
        refine And.intro (.inr ((Below.refl _ _).alloc (Nat.le_refl _) _)) ?_
        simp only
        obtain ⟨w5, hw5⟩ : ∃ x, w4.alloc (.cells #[.slice A2 n2 c2, .slice A3 n3 c3] 23) = x := ⟨_, rfl⟩
        have hf : Fr (fun _ => False) w4 w5 := by rw [← hw5]; exact (Fr.refl (fun _ => False) w4).alloc _
        have hY := Row.new w4 23 #[.slice A2 n2 c2, .slice A3 n3 c3] (sz := 1) (n := 2) _ rfl rfl (by decide)
        have hb5 : Below w.heap.size w w5 := by rw [← hw5]; exact hb4.out.alloc hb4.out.size _
        rw [hw5] at hY ⊢
        have hYd := Lib.hid hY
        have hfd := Lib.hid hf
        have hb5d := Lib.hid hb5
        clear hw5 hY hf hb5
        refine wpQuiet_nil (wpQuiet_nil ?_)
        go_wp2_with fail
        refine (refsums_any w5 (hr4.out.fr hfd.out (fun _ _ h => h)) hl3.out).mono ?_
        rintro e w6 ⟨A6, n6, c6, rfl, hr6, hb6⟩
        have hr6d := Lib.hid hr6
        have hb6d : Hid (Below w.heap.size w w6) := hb5d.out.trans (hb6.mono hb5d.out.size)
        have hb56 : Hid (Ab w5 w6) := hb6
        clear hr6 hb6
        go_wp2_with fail
        refine And.intro (.inr hb56.out) ?_
        simp only
        iterate 2 (go_big_quiet_step (exact fun _ => rfl))
        refine wpQuiet_nil (wpQuiet_nil ?_)
        go_wp2_with fail
        go_returns
        have hf6 := Fr.of_below (F := fun _ => False) hb56.out
        refine ⟨_, _, _, _, rfl, ?_, ⟨_, _, _, rfl, _, (hYd.out.fr hf6 (fun _ _ h => h)).mono (fun _ _ _ => trivial), ?_⟩, hb6d.out⟩
        · rw [Ob.rootH_one]
          exact hr6d.out.mono (fun i _ h => Nat.le_trans hb5d.out.size h)
        · rw [Ob.treeL_one]
          exact ⟨_, _, rfl, ⟨_, _, _, rfl, (hc4.out.fr hfd.out (fun _ _ h => h)).fr hf6 (fun _ _ h => h)⟩, SlsIs.one ⟨_, _, _, rfl, (hr4.out.fr hfd.out (fun _ _ h => h)).fr hf6 (fun _ _ h => h)⟩⟩
    · have h2 : 2 ≤ n := by omega
      have hnl := hx.len
      obtain ⟨x0, x1, t, hx0, hx1, hls, htt, htop, hz0, hz1⟩ := ha.parts (by omega)
      obtain ⟨hxk0, hxk1⟩ : x0.key.length ≤ 100000 ∧ x1.key.length ≤ 100000 := ⟨(hxs _ (List.mem_of_getElem? hx0)).1, (hxs _ (List.mem_of_getElem? hx1)).1⟩
      have htl : t ≤ 1000000 := by
        have := Ob.split_lt (Ob.ne_of_less hls)
        omega
      obtain ⟨b, o, s, p, rfl, -, hbl, -⟩ := hx.get hx0
      have hrd := Lib.hid hx
      have hh2 := Lib.hid h2
      have hlen : Hid (n = xs.length) := hnl
      have hac := Lib.hid ha
      have hmm : Hid (n ≤ m + 1 ∧ m + 1 ≤ 1000) := ⟨hn, hm⟩
      have hxd := Lib.hid hxs
      have htd := Lib.hid htop
      have htl2 := Lib.hid htl
      have hn0I : ¬ (n : Int) = 0 := by omega
      have hn1I : ¬ (n : Int) = 1 := by omega
      clear hn hm hxs h0 h1 h2 hnl hx0 hx1 hls htt hxk0 hxk1 htl
      go_enter Tryd.func17, Tryd.ntmps17
      go_wp2_with fail
      refine (refparts_any w hrd.out t htd.out htl2.out hh2.out (by have := hmm.out; omega) (fun x h => (hxd.out x h).1) hz1).mono ?_
      rintro e w1 ⟨rfl, hb1⟩
      obtain ⟨k, hk⟩ : ∃ k, Ob.zeros t xs = k := ⟨_, rfl⟩
      rw [hk] at hz0 hz1 ⊢
      have hkd := Lib.hid hk
      have hzd : Hid (0 < k ∧ k < n) := ⟨hz0, by have := hlen.out; omega⟩
      have hb1d := Lib.hid hb1
      clear hk hb1 hz0 hz1 htop
      have hkn : k ≤ n := by have := hzd.out; omega
      have hnc : Hid (n ≤ c ∧ c ≤ maxLen) := hx.le
      have hkc : k ≤ c := by have := hnc.out; omega
      clear hx ha
      go_wp2_with fail
      refine (ih w1 _ k c (xs.take k) ((hrd.out.fr (Fr.of_below (F := fun _ => False) hb1d.out) (fun _ _ h => h)).to hkn) (hac.out.take k) (by have := hzd.out; have := hmm.out; omega) (by have := hmm.out; omega) (fun x h => hxd.out x (List.mem_of_mem_take h))).mono ?_
      rintro e w2 ⟨A2, n2, c2, V2, rfl, hr2, ⟨P2, pn2, pc2, rfl, hp2⟩, hb2⟩
      have hr2d := Lib.hid hr2
      have hp2d := Lib.hid hp2
      have hb2d : Hid (Below w.heap.size w w2) := hb1d.out.trans (hb2.mono hb1d.out.size)
      clear hr2 hp2 hb2
      have hckI : ¬ (c : Int) = (k : Int) := by have := hzd.out; have := hnc.out; omega
      have hck : ¬ c = k := by have := hzd.out; have := hnc.out; omega
      go_wp2_with fail
      have hx2 : RdI w2 (fun _ => True) (some ⟨b, o + k * 4, none⟩) (n - k) (c - k) (xs.drop k) := by
        have h := (hrd.out.fr (Fr.of_below (F := fun _ => False) hb2d.out) (fun _ _ h => h)).from_ hkn
        rw [if_neg hck, Option.map_some, add_none] at h
        exact h
      refine (ih w2 _ (n - k) (c - k) (xs.drop k) hx2 (hac.out.drop k) (by have := hzd.out; have := hmm.out; omega) (by have := hmm.out; omega) (fun x h => hxd.out x (List.mem_of_mem_drop h))).mono ?_
      rintro e w3 ⟨A3, n3, c3, V3, rfl, hr3, ⟨P3, pn3, pc3, rfl, hp3⟩, hb3⟩
      have hr3d := Lib.hid hr3
      have hp3d := Lib.hid hp3
      have hb23 := Lib.hid hb3
      have hb3d : Hid (Below w.heap.size w w3) := hb2d.out.trans (hb3.mono hb2d.out.size)
      clear hr3 hp3 hb3 hx2 hckI hck hkc
      go_wp2_with fail
      refine (refnoded_any w3 t (by have := htl2.out; omega) ((hr2d.out.fr (Fr.of_below (F := fun _ => False) hb23.out) (fun _ _ h => h)).mono (fun _ _ _ => trivial)) (hr3d.out.mono (fun _ _ _ => trivial)) (by have := Ob.rootH_le (xs.take k); omega) (by have := Ob.rootH_le (xs.drop k); omega)).mono ?_
      rintro e w4 ⟨A4, n4, c4, rfl, hr4, hb4⟩
      have hr4d := Lib.hid hr4
      have hb34 := Lib.hid hb4
      have hb4d : Hid (Below w.heap.size w w4) := hb3d.out.trans (hb4.mono hb3d.out.size)
      have hl4 : Hid ((Ob.nodeB t (Ob.rootH (xs.take k)) (Ob.rootH (xs.drop k))).length ≤ 70368744177664) := by show _ ≤ _; have := Ob.rootH_le (xs.take k); have := Ob.rootH_le (xs.drop k); simp [Ob.nodeB, Ob.num_len]; omega
      clear hr4 hb4
      go_wp2_with fail
      refine (refsums_any w4 (hr4d.out.mono (fun _ _ _ => trivial)) hl4.out).mono ?_
      rintro e w5 ⟨A5, n5, c5, rfl, hr5, hb5⟩
      have hr5d := Lib.hid hr5
      have hb45 := Lib.hid hb5
      have hb5d : Hid (Below w.heap.size w w5) := hb4d.out.trans (hb5.mono hb4d.out.size)
      have hp2e : Hid (RdS w5 (fun i => i < w5.heap.size) P2 pn2 pc2 (Ob.treeL (xs.take k))) := ((hp2d.out.fr (Fr.of_below (F := fun _ => False) (hb23.out.trans ((hb34.out.trans (hb45.out.mono hb34.out.size)).mono hb23.out.size))) (fun _ _ h => h)).mono (fun i h _ => h))
      have hp3e : Hid (RdS w5 (fun i => i < w5.heap.size) P3 pn3 pc3 (Ob.treeL (xs.drop k))) := ((hp3d.out.fr (Fr.of_below (F := fun _ => False) (hb34.out.trans (hb45.out.mono hb34.out.size))) (fun _ _ h => h)).mono (fun i h _ => h))
      have hr4e : Hid (Rd w5 (fun i => i < w5.heap.size) A4 n4 c4 (Ob.nodeB t (Ob.rootH (xs.take k)) (Ob.rootH (xs.drop k)))) := (hr4d.out.fr (Fr.of_below (F := fun _ => False) hb45.out) (fun _ _ h => h)).mono (fun i h _ => h)
      have hr5e : Hid (Rd w5 (fun i => w.heap.size ≤ i ∧ i < w5.heap.size) A5 n5 c5 (Ob.rootH xs)) := by
        show Rd _ _ _ _ _ _
        have hkx := hkd.out
        rw [Ob.rootH_two (by have := hlen.out; have := hh2.out; omega) htd.out (by have := hzd.out; omega) (by have := hzd.out; have := hlen.out; omega), hkx]
        exact hr5d.out.mono (fun i hi h => ⟨Nat.le_trans hb4d.out.size h, hi⟩)
      have hpl : Hid (pn2 ≤ 4000 ∧ pn3 ≤ 4000) := by
        show _ ∧ _
        have e2 := hp2d.out.len
        have e3 := hp3d.out.len
        have q2 := (Ob.treeL_le _ (xs.take k) (Nat.le_refl _)).1
        have q3 := (Ob.treeL_le _ (xs.drop k) (Nat.le_refl _)).1
        rw [List.length_take] at q2
        rw [List.length_drop] at q3
        have := hlen.out
        have := hmm.out
        omega
      clear hr5 hb5 hr2d hr3d hr4d hr5d hp2d hp3d hb23 hb34 hb45 hb1d hb2d hb3d hb4d hl4
      obtain ⟨vs2, ro2, hs2⟩ := hp2e.out
      obtain ⟨vs3, ro3, hs3⟩ := hp3e.out
      have hpl2 : pn2 ≤ 4000 ∧ pn3 ≤ 4000 := hpl.out
      have hown := made0_ w5 23 1 w5.heap.size (Nat.le_refl _)
      have ro2' := ro2.fr ((Fr.refl (fun _ => False) w5).alloc (.cells #[] 23)) (fun _ _ h => h)
      have hb6 : Below w5.heap.size w5 (w5.alloc (.cells #[] 23)) := (Below.refl _ _).alloc (Nat.le_refl _) _
      have on2 := hs2.ones
      have on3 := Lib.hid hs3.ones
      have ro3d := Lib.hid ro3
      have hs2d := Lib.hid hs2
      have hs3d := Lib.hid hs3
      have hb6d := Lib.hid hb6
      clear ro2 hs2 ro3 hs3 hb6
      go_wp2_with (at_builtin; refine wpl_app rfl (.tmp 65) (.tmp 66) 24 rfl w5.heap.size 23 _ 1 24 Tryd.underlying24 infoBytes rfl (by decide) (by decide) _ rfl 0 [] hown _ _ pn2 pc2 rfl _ ro2' on2 (by omega) (by simp) pn2 (Nat.zero_add _) ?h2)
      case h2 =>
        intro A6 c6 w6 o6 g6 _
        have hb7 : Below w5.heap.size w5 w6 := hb6d.out.trans (app_below_ g6 (fun k e => (own_lt hown k e).1) hb6d.out.size)
        have ro3' := ro3d.out.fr (Fr.of_below (F := fun _ => False) hb7) (fun _ _ h => h)
        have on3' := on3.out
        have hb7d := Lib.hid hb7
        have hs7 := hb7.size
        clear hown ro2' on2 g6 hb7 hb6d
        go_wp2_with (at_builtin; refine wpl_app rfl (.tmp 67) (.tmp 68) 24 rfl w5.heap.size 23 _ 1 24 Tryd.underlying24 infoBytes rfl (by decide) (by decide) _ rfl pn2 vs2 o6 _ _ pn3 pc3 rfl _ ro3' on3' (by omega) hs7 (pn2 + pn3) rfl ?h3)
        case h3 =>
          intro A7 c7 w7 o7 g7 _
          have hb8 : Below w5.heap.size w5 w7 := hb7d.out.trans (app_below_ g7 (fun k e => (own_lt o6 k e).1) hs7)
          have hs8 := hb8.size
          have o8 : (w7.alloc (.cells #[.slice A4 n4 c4] 23)).ownsRow w5.heap.size 23 1 (.slice A7 (pn2 + pn3) c7) (pn2 + pn3) (vs2 ++ vs3) := own_alc o7 _
          have ro8 : Row (w7.alloc (.cells #[.slice A4 n4 c4] 23)) (fun i => i = w7.heap.size) 1 (some ⟨w7.heap.size, 0, none⟩) 1 1 [.slice A4 n4 c4] := Row.new w7 _ _ _ rfl rfl (by decide)
          have hb9 : Below w5.heap.size w5 (w7.alloc (.cells #[.slice A4 n4 c4] 23)) := hb8.alloc hs8 _
          have hs9 := hb9.size
          have hb9d := Lib.hid hb9
          have on8 : ∀ u ∈ [Value.slice A4 n4 c4], u.oneCell' = true := by intro u hu; rw [List.mem_singleton.1 hu]; rfl
          clear o6 g7 hs7 hb7d ro3' on3' hb8 hs8 o7 hb9
          go_wp2_with (
              (at_builtin; refine wpl_app rfl (.tmp 69) (.tmp 71) 24 rfl w5.heap.size 23 _ 1 24 Tryd.underlying24 infoBytes rfl (by decide) (by decide) _ rfl (pn2 + pn3) _ o8 _ _ 1 1 rfl _ ro8 on8 (by omega) hs9 (pn2 + pn3 + 1) rfl ?h4))
          case h4 =>
            intro A9 c9 w9 o9 g9 _
            have hb10 : Below w5.heap.size w5 w9 := hb9d.out.trans (app_below_ g9 (fun k e => (own_lt o8 k e).1) hs9)
            go_wp2_with fail
            go_returns
            have hf := Fr.of_below (F := fun _ => False) hb10
            have hkx := hkd.out
            refine ⟨_, _, _, _, rfl, (hr5e.out.fr hf (fun _ _ h => h)).mono (fun _ _ h => h.1), ⟨_, _, _, rfl, _, (own_row o9).mono (fun _ _ _ => trivial), ?_⟩, hb5d.out.trans (hb10.mono hb5d.out.size)⟩
            rw [Ob.treeL_two (by have := hlen.out; have := hh2.out; omega) htd.out (by have := hzd.out; omega) (by have := hzd.out; have := hlen.out; omega), hkx]
            rw [← List.append_assoc vs2]
            exact (((hs2d.out.append hs3d.out).append (SlsIs.one ⟨_, _, _, rfl, hr4e.out⟩)).fr hf (fun _ _ h => h)).mono (fun _ _ _ => trivial)
set_option maxRecDepth 100000 in
theorem refroot_any (w : World) {A : Option Addr} {n c : Nat} {xs : List Ob.It} (hx : RdI w (fun _ => True) A n c xs) (ha : Ob.Asc xs) (hn : n ≤ 1000) (hxs : ∀ x ∈ xs, x.key.length ≤ 100000 ∧ x.content.length ≤ 1000000) :
    Calls Tryd.prog 27 #[.slice A n c] w fun e w' => ∃ A m d, e = .returned (.slice A m d) ∧ Rd w' (fun i => w.heap.size ≤ i) A m d (Ob.rootH xs) ∧ Below w.heap.size w w' := by
  go_enter Tryd.func27, Tryd.ntmps27
  go_wp2_with fail
  refine (reftree_any n w A n c xs hx ha (Nat.le_refl _) hn hxs).mono ?_
  rintro e w1 ⟨A1, n1, c1, V, rfl, hr, hp, hb⟩
  go_wp2_with fail
  go_ret
  exact ⟨_, _, _, rfl, hr, hb⟩
end Go.Proofs.YthoaenpbmmjokaaDoor

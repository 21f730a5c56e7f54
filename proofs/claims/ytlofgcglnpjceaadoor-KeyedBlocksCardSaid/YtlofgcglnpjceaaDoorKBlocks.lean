/-
  A key of more than 64 bytes has the tags of its digest, one of less than 64 those of the same key followed by a zero.
-/
import Derived.Test.YtlofgcglnpjceaaDoorHead
import Derived.Test.YtlofgcglnpjceaaDoorShort
import Derived.Test.YtlofgcglnpjceaaDoorArg
import Derived.Test.YtlofgcglnpjceaaDoorOrdT
namespace Go.Proofs.YtlofgcglnpjceaaDoor.keyedBlocks
open Go.ChangeShapes Go.WideShapes Go.ChangeAt Go.RowKit Go.Pl
theorem rd_zero (w : World) : Rd (w.alloc (.cells #[.int .u8 0] 5)) (fun i => i = w.heap.size) (some ⟨w.heap.size, 0, none⟩) 1 1 [0] := by
  refine ⟨rfl, Nat.le_refl _, by simp [maxLen], (fun e => by cases e), fun _ => ⟨w.heap.size, 0, rfl, rfl, by simp, fun i hi => ?_⟩⟩
  obtain rfl : i = 0 := by omega
  rw [(Blk.new w 5 #[.int .u8 0]).cell]
  rfl
set_option maxRecDepth 100000 in
set_option maxHeartbeats 4000000 in
theorem walk {A1 A2 : Option Addr} {n1 c1 n2 c2 : Nat} {k m : List UInt8} (w : World) (hK : Kst w) (h1 : Rd w (fun _ => True) A1 n1 c1 k) (h2 : Rd w (fun _ => True) A2 n2 c2 m) :
    Calls Tryd.prog 8 #[.slice A1 n1 c1, .slice A2 n2 c2] w fun e w' => e = .returned (.bool true) ∧ Below w.heap.size w w' := by
  have hl1 := Lib.hid h1.len
  have hl2 := Lib.hid h2.len
  have hKp := hK.pos
  have hR : Hid (Rd w (fun i => i < w.heap.size) A1 n1 c1 k ∧ Rd w (fun i => i < w.heap.size) A2 n2 c2 m) := ⟨h1.mono (fun i hi _ => hi), h2.mono (fun i hi _ => hi)⟩
  clear h1 h2
  go_enter Tryd.func8, Tryd.ntmps8
  go_wp2_with fail
  refine (awake_any _ hK).mono ?_
  rintro e w1 ⟨rfl, hb1⟩
  go_wp2_with fail
  refine (short_any _ _ _ _ _ _ _).mono ?_
  rintro e wq ⟨rfl, rfl⟩
  by_cases hs : n1 ≤ 2000 ∧ n2 ≤ 2000
  · rw [decide_eq_true hs]
    have hk : Hid (k.length ≤ 1000000) := by show _ ≤ _; have := hl1.out; omega
    have hm : Hid (m.length ≤ 1000000) := by show _ ≤ _; have := hl2.out; omega
    clear hs hl2
    go_wp2_with fail
    refine (tag_any _ (hK.below hb1 hKp) ((hR.out.1.ab hb1).mono (fun _ _ _ => trivial)) ((hR.out.2.ab hb1).mono (fun _ _ _ => trivial)) hk.out hm.out).mono ?_
    rintro e w2 ⟨g2, n, c, hn2, rfl, -, hd2, hb2'⟩
    rw [Keyed.length_tag] at hn2
    subst hn2
    have hrT : Rd w2 (fun _ => True) (some ⟨g2, 0, none⟩) 32 c (Keyed.tag k m) := by have := hd2.rd.mono (T := fun _ => True) (fun _ _ _ => trivial); rwa [Keyed.length_tag] at this
    have hb3 : Below w.heap.size w w2.drew := (hb1.trans (hb2'.mono hb1.size)).trans ((ab_drew w2).mono (hb1.trans (hb2'.mono hb1.size)).size)
    have hb2 := hb1.trans (hb2'.mono hb1.size)
    have hsT : ∀ w', Ab w2.drew w' → Bytes w' w'.heap.size (.slice (some ⟨g2, 0, none⟩) 32 c) (Keyed.tag k m) := fun w' h => (hrT.ab (Ab.trans _ _ _ (ab_drew w2) h)).all
    clear hd2 hb2' hrT hb1
    by_cases hgt : 64 < n1
    · have hgI : (64 : Int) < (n1 : Int) := by omega
      have htl : Hid (Keyed.tag (Sha.sha k) m = Keyed.tag k m) := Keyed.tag_long (by have := hl1.out; omega) m
      clear hgt hl1
      go_wp2_with fail
      refine wp_region_plan Ab Ab.refl Ab.trans [([0, 1, 2, 5], 3), ([], 4), ([], 6)] [7, 8, 9] (by kernel_rfl) (by kernel_rfl) (fun _ _ _ _ _ h => h) ?_
      simp only [wpPlan, ordPick, Option.toList_some, List.cons_append, List.nil_append, List.getElem?_cons_succ, List.getElem?_cons_zero]
      generalize w2.drew = w3 at hb3 hsT ⊢
      iterate 1 (go_big_quiet_step (exact fun _ => rfl))
      refine wpq_string rfl 22 9 5 (.tmp 18) rfl rfl rfl rfl _ _ _ rfl _ hsT ?_
      simp only [Act.put, List.setIfInBounds_toArray, List.set_cons_succ, List.set_cons_zero]
      iterate 2 (go_big_quiet_step (exact fun _ => rfl))
      refine wpQuiet_nil ?_
      clear hsT
      go_wp2_with fail
      refine (sum_any _ (hK.below hb3 hKp) ((hR.out.1.ab hb3).mono (fun _ _ _ => trivial)) (by have := hk.out; omega)).mono ?_
      rintro e w4 ⟨rfl, hb4'⟩
      have hb4 := hb3.trans (hb4'.mono hb3.size)
      clear hb2 hb3
      obtain ⟨D, hD⟩ : ∃ D, Sha.sha k = D := ⟨_, rfl⟩
      have hDl : D.length = 32 := by rw [← hD]; exact Sha.length_sha _
      have hDm : D.length ≤ maxLen := by rw [hDl]; simp [maxLen]
      have hDk : Hid (D.length ≤ 1000000) := by show _ ≤ _; omega
      rw [hD] at htl ⊢
      have hDn : Hid (D.length = 32) := hDl
      clear hD hDl
      go_wp2_with fail
      refine And.intro hb4' (wpQuiet_nil ?_)
      go_wp2_with (first
        | ((with_reducible refine wpl_bytes_str rfl 9 22 5 (.tmp 21) rfl ?_ ?_ ?_ D ?_ hDm ?_); rfl; rfl; rfl; rfl; intro c5 w5 hd5 hg5;
            have hb5' : Ab w4 w5 := (Below.refl _ _).grown hg5 (Nat.le_refl _) (fun k hk => by cases hk);
            have hb5 := hb4.trans (hb5'.mono hb4.size);
            have hr5 := hd5.rd.mono (T := fun _ => True) (fun _ _ _ => trivial)))
      refine And.intro hb5' (wpQuiet_nil ?_)
      clear hb4 hb4' hd5 hg5 hDm
      go_wp2_with fail
      refine (tag_any _ (hK.below hb5 hKp) hr5 ((hR.out.2.ab hb5).mono (fun _ _ _ => trivial)) hDk.out hm.out).mono ?_
      intro e w6 hd
      obtain ⟨A6, n6, c6, rfl, hr6, hb6'⟩ := hd.rd
      have hb6 := hb5.trans (hb6'.mono hb5.size)
      rw [htl.out] at hr6
      have hs6 : ∀ w', Ab w6 w' → Bytes w' w'.heap.size (.slice A6 n6 c6) (Keyed.tag k m) := fun w' h => (hr6.ab h).all
      clear hd hr6 hb5 hb5' hr5
      go_wp2_with fail
      refine And.intro hb6' ?_
      dsimp only
      refine wpq_string rfl 22 9 5 (.tmp 24) rfl rfl rfl rfl _ _ _ rfl _ hs6 ?_
      simp only [Act.put, List.setIfInBounds_toArray, List.set_cons_succ, List.set_cons_zero]
      iterate 2 (go_big_quiet_step (exact fun _ => rfl))
      refine wpQuiet_nil ?_
      go_wp2_with fail
      go_ret
      exact ⟨rfl, hb6⟩
    · have hgI : ¬ (64 : Int) < (n1 : Int) := by omega
      by_cases hlt : n1 < 64
      · have hlI : (n1 : Int) < (64 : Int) := by omega
        have htl : Hid (Keyed.tag (k ++ [0]) m = Keyed.tag k m) := Keyed.tag_zero (by have := hl1.out; omega) m
        have hk0 : Hid ((k ++ [0]).length ≤ 1000000) := by show _ ≤ _; have := hl1.out; simp; omega
        have hlo4 : Hid (([] : List UInt8).length + k.length ≤ 140737488355328) := by show _ ≤ _; have := hl1.out; simp; omega
        have hN4 : Hid ((([] : List UInt8) ++ k).length = n1) := by show _ = _; have := hl1.out; simp; omega
        have hlo6 : Hid (k.length + [(0 : UInt8)].length ≤ 140737488355328) := by show _ ≤ _; have := hl1.out; simp; omega
        obtain ⟨N6, hN6⟩ : ∃ N, Hid ((k ++ [(0 : UInt8)]).length = N) := ⟨_, rfl⟩
        clear hgt hlt
        go_wp2_with fail
        refine wp_region_sch (Below w2.drew.heap.size) (fun w => Below.refl _ w) (fun a b c h k => h.trans k) (.two [0, 1, 3, 7] 2 (.two [] 4 (.one [] 5 (.one [] 6 (.one [] 8 (.one [] 9 (.last [10, 11]))))) 5 (.one [] 4 (.one [] 6 (.one [] 8 (.one [] 9 (.last [10, 11])))))) 5 (.one [] 2 (.one [] 4 (.one [] 6 (.one [] 8 (.one [] 9 (.last [10, 11]))))))) (by kernel_rfl) (by kernel_rfl) (fun _ _ _ _ _ h => h) ?_
        simp only [wpSch, ordPick, Option.toList_some, List.cons_append, List.nil_append, List.getElem?_cons_succ, List.getElem?_cons_zero]
        generalize w2.drew = w3 at hb3 hsT ⊢
        iterate 1 (go_big_quiet_step (exact fun _ => rfl))
        refine wpq_string rfl 22 9 5 (.tmp 30) rfl rfl rfl rfl _ _ _ rfl _ hsT ?_
        simp only [Act.put, List.setIfInBounds_toArray, List.set_cons_succ, List.set_cons_zero]
        iterate 2 (go_big_quiet_step (exact fun _ => rfl))
        refine wpQuiet_nil ?_
        clear hsT hb2
        refine And.intro ?_ ?_
        · go_wp2_with fail
          have nv3 : Below w3.heap.size w3 (w3.alloc (.cells #[] 5)) := (Below.refl _ _).alloc ((Below.refl w3.heap.size w3)).size _
          refine And.intro nv3 (wpQuiet_nil ?_)
          have fv3 : Below w3.heap.size w3 (w3.alloc (.cells #[] 5)) := ((Below.refl w3.heap.size w3)).alloc ((Below.refl w3.heap.size w3)).size _
          have o2 : (w3.alloc (.cells #[] 5)).ownsRow w3.heap.size 5 1 (.slice (some ⟨w3.heap.size, 0, none⟩) 0 0) ([] : List UInt8).length (([] : List UInt8).map u8v) := own_alloc w3 (Nat.le_refl _) 5 [] #[] rfl rfl (by decide)
          have hlt : w3.heap.size < (w3.alloc (.cells #[] 5)).heap.size := by simp
          obtain ⟨v3, hv3⟩ : ∃ v, w3.alloc (.cells #[] 5) = v := ⟨_, rfl⟩
          rw [hv3] at fv3 o2 hlt ⊢
          clear hv3 nv3
          refine And.intro ?_ ?_
          · have bk := ((hR.out.1.ab (hb3.trans ((fv3).mono hb3.size))).mono (T := fun _ => True) (fun _ _ _ => trivial)).all
            go_wp2_with (first
              | ((with_reducible refine wpl_append_sl _ rfl (.tmp 32) (.tmp 33) 22 rfl w3.heap.size 5 ?_ ?_ _ ?_ [] o2 _ _ ?_ k bk hlo4.out (fv3).size n1 hN4.out ?_); rfl; kernel_rfl; rfl; rfl; intro A4 c4 w4 ho4 hg4 hb4;
                  have e4 := Lib.hid ((fv3).grown hg4 (fv3).size (fun k hk => own_base o2 hk));
                  have m4 := Lib.hid ((Below.refl w3.heap.size v3).grown hg4 (fv3).size (fun k hk => own_base o2 hk));
                  have ho4' : w4.ownsRow w3.heap.size 5 1 (.slice A4 n1 c4) k.length (k.map u8v) := (by rw [← hl1.out]; exact ho4);
                  clear hg4 hb4 ho4 o2 bk))
            refine And.intro m4.out (wpQuiet_nil ?_)
            go_wp2_with fail
            have nv5 : Below w3.heap.size w4 (w4.alloc (.cells #[.int .u8 0] 5)) := (Below.refl _ _).alloc (e4.out).size _
            refine And.intro nv5 (wpQuiet_nil ?_)
            have fv5 : Below w3.heap.size w3 (w4.alloc (.cells #[.int .u8 0] 5)) := (e4.out).alloc (e4.out).size _
            have o5 := own_alc ho4' (.cells #[.int .u8 0] 5)
            have rz : Rd (w4.alloc (.cells #[.int .u8 0] 5)) (fun i => i = w4.heap.size) (some ⟨w4.heap.size, 0, none⟩) 1 1 [0] := rd_zero w4
            obtain ⟨v5, hv5⟩ : ∃ v, w4.alloc (.cells #[.int .u8 0] 5) = v := ⟨_, rfl⟩
            rw [hv5] at fv5 o5 rz ⊢
            clear hv5 nv5
            have bz := (rz.mono (T := fun _ => True) (fun _ _ _ => trivial)).all
            go_wp2_with (first
              | ((with_reducible refine wpl_append_sl _ rfl (.tmp 34) (.tmp 35) 22 rfl w3.heap.size 5 ?_ ?_ _ ?_ k o5 _ _ ?_ [0] bz hlo6.out (fv5).size N6 hN6.out ?_); rfl; kernel_rfl; rfl; rfl; intro A6 c6 w6 ho6 hg6 hb6;
                  have e6 := (fv5).grown hg6 (fv5).size (fun k hk => own_base o5 hk);
                  have m6 := Lib.hid ((Below.refl w3.heap.size v5).grown hg6 (fv5).size (fun k hk => own_base o5 hk));
                  have r6 : Rd w6 (fun _ => True) A6 N6 c6 (k ++ [0]) := (own_rd ho6).mono (fun _ _ _ => trivial);
                  clear hg6 hb6 ho6 o5 bz))
            refine And.intro m6.out (wpQuiet_nil ?_)
            have hb6 := hb3.trans (e6.mono hb3.size)
            clear m6
            go_wp2_with fail
            refine (tag_any _ (hK.below hb6 hKp) r6 ((hR.out.2.ab hb6).mono (fun _ _ _ => trivial)) hk0.out hm.out).mono ?_
            intro e w8 hd
            obtain ⟨A8, n8, c8, rfl, hr8, hb8'⟩ := hd.rd
            have hb8 := hb6.trans (hb8'.mono hb6.size)
            have h8 : Below w3.heap.size w6 w8 := hb8'.mono e6.size
            rw [htl.out] at hr8
            have b8 := hr8.all
            clear hd hb6 r6 hr8
            go_wp2_with fail
            refine And.intro h8 (wpQuiet_nil ?_)
            go_wp2_with ((with_reducible refine wpl_string_bytes _ rfl 22 9 5 (.tmp 38) rfl ?_ ?_ ?_ w8.heap.size _ ?_ _ b8 ?_); rfl; rfl; rfl; rfl)
            refine And.intro (Below.refl _ _) ?_
            dsimp only
            iterate 2 (go_big_quiet_step (exact fun _ => rfl))
            refine wpQuiet_nil ?_
            go_wp2_with fail
            go_ret
            exact ⟨rfl, hb8⟩
          · have hne : v3.heap.size ≠ w3.heap.size := by omega
            go_wp2_with fail
            have nv4 : Below w3.heap.size v3 (v3.alloc (.cells #[.int .u8 0] 5)) := (Below.refl _ _).alloc (fv3).size _
            refine And.intro nv4 (wpQuiet_nil ?_)
            have fv4 : Below w3.heap.size w3 (v3.alloc (.cells #[.int .u8 0] 5)) := (fv3).alloc (fv3).size _
            have o4 := own_alc o2 (.cells #[.int .u8 0] 5)
            have rz : Rd (v3.alloc (.cells #[.int .u8 0] 5)) (fun i => i = v3.heap.size) (some ⟨v3.heap.size, 0, none⟩) 1 1 [0] := rd_zero v3
            obtain ⟨v4, hv4⟩ : ∃ v, v3.alloc (.cells #[.int .u8 0] 5) = v := ⟨_, rfl⟩
            rw [hv4] at fv4 o4 rz ⊢
            clear hv4 nv4
            have bk := ((hR.out.1.ab (hb3.trans ((fv4).mono hb3.size))).mono (T := fun _ => True) (fun _ _ _ => trivial)).all
            go_wp2_with (first
              | ((with_reducible refine wpl_append_sl _ rfl (.tmp 32) (.tmp 33) 22 rfl w3.heap.size 5 ?_ ?_ _ ?_ [] o4 _ _ ?_ k bk hlo4.out (fv4).size n1 hN4.out ?_); rfl; kernel_rfl; rfl; rfl; intro A4 c4 w4 ho4 hg4 hb4;
                  have e4 := Lib.hid ((fv4).grown hg4 (fv4).size (fun k hk => own_base o4 hk));
                  have m4 := Lib.hid ((Below.refl w3.heap.size v4).grown hg4 (fv4).size (fun k hk => own_base o4 hk));
                  have rz4 := Lib.hid (rz.fr ((Fr.refl (fun i => i = w3.heap.size) _).grown hg4 (fun k hk => .inl ((Option.some.inj hk).symm))) (fun i hi e => hne (hi.symm.trans e)));
                  have ho4' : w4.ownsRow w3.heap.size 5 1 (.slice A4 n1 c4) k.length (k.map u8v) := (by rw [← hl1.out]; exact ho4);
                  clear hg4 hb4 ho4 o4 bk))
            refine And.intro m4.out (wpQuiet_nil ?_)
            have bz := (rz4.out.mono (T := fun _ => True) (fun _ _ _ => trivial)).all
            go_wp2_with (first
              | ((with_reducible refine wpl_append_sl _ rfl (.tmp 34) (.tmp 35) 22 rfl w3.heap.size 5 ?_ ?_ _ ?_ k ho4' _ _ ?_ [0] bz hlo6.out (e4.out).size N6 hN6.out ?_); rfl; kernel_rfl; rfl; rfl; intro A6 c6 w6 ho6 hg6 hb6;
                  have e6 := (e4.out).grown hg6 (e4.out).size (fun k hk => own_base ho4' hk);
                  have m6 := Lib.hid ((Below.refl w3.heap.size w4).grown hg6 (e4.out).size (fun k hk => own_base ho4' hk));
                  have r6 : Rd w6 (fun _ => True) A6 N6 c6 (k ++ [0]) := (own_rd ho6).mono (fun _ _ _ => trivial);
                  clear hg6 hb6 ho6 ho4' bz))
            refine And.intro m6.out (wpQuiet_nil ?_)
            have hb6 := hb3.trans (e6.mono hb3.size)
            clear m6
            go_wp2_with fail
            refine (tag_any _ (hK.below hb6 hKp) r6 ((hR.out.2.ab hb6).mono (fun _ _ _ => trivial)) hk0.out hm.out).mono ?_
            intro e w8 hd
            obtain ⟨A8, n8, c8, rfl, hr8, hb8'⟩ := hd.rd
            have hb8 := hb6.trans (hb8'.mono hb6.size)
            have h8 : Below w3.heap.size w6 w8 := hb8'.mono e6.size
            rw [htl.out] at hr8
            have b8 := hr8.all
            clear hd hb6 r6 hr8
            go_wp2_with fail
            refine And.intro h8 (wpQuiet_nil ?_)
            go_wp2_with ((with_reducible refine wpl_string_bytes _ rfl 22 9 5 (.tmp 38) rfl ?_ ?_ ?_ w8.heap.size _ ?_ _ b8 ?_); rfl; rfl; rfl; rfl)
            refine And.intro (Below.refl _ _) ?_
            dsimp only
            iterate 2 (go_big_quiet_step (exact fun _ => rfl))
            refine wpQuiet_nil ?_
            go_wp2_with fail
            go_ret
            exact ⟨rfl, hb8⟩
        · go_wp2_with fail
          have nv3 : Below w3.heap.size w3 (w3.alloc (.cells #[.int .u8 0] 5)) := (Below.refl _ _).alloc ((Below.refl w3.heap.size w3)).size _
          refine And.intro nv3 (wpQuiet_nil ?_)
          have fv3 : Below w3.heap.size w3 (w3.alloc (.cells #[.int .u8 0] 5)) := ((Below.refl w3.heap.size w3)).alloc ((Below.refl w3.heap.size w3)).size _
          have rz : Rd (w3.alloc (.cells #[.int .u8 0] 5)) (fun i => i = w3.heap.size) (some ⟨w3.heap.size, 0, none⟩) 1 1 [0] := rd_zero w3
          have hlt : w3.heap.size < (w3.alloc (.cells #[.int .u8 0] 5)).heap.size := by simp
          obtain ⟨v3, hv3⟩ : ∃ v, w3.alloc (.cells #[.int .u8 0] 5) = v := ⟨_, rfl⟩
          rw [hv3] at fv3 rz hlt ⊢
          clear hv3 nv3
          go_wp2_with fail
          have nv4 : Below w3.heap.size v3 (v3.alloc (.cells #[] 5)) := (Below.refl _ _).alloc (fv3).size _
          refine And.intro nv4 (wpQuiet_nil ?_)
          have fv4 : Below w3.heap.size w3 (v3.alloc (.cells #[] 5)) := (fv3).alloc (fv3).size _
          have o2 : (v3.alloc (.cells #[] 5)).ownsRow w3.heap.size 5 1 (.slice (some ⟨v3.heap.size, 0, none⟩) 0 0) ([] : List UInt8).length (([] : List UInt8).map u8v) := own_alloc v3 fv3.size 5 [] #[] rfl rfl (by decide)
          have rz' := rz.fr ((Fr.refl (fun _ => False) v3).alloc (.cells #[] 5)) (fun _ _ h => h)
          obtain ⟨v4, hv4⟩ : ∃ v, v3.alloc (.cells #[] 5) = v := ⟨_, rfl⟩
          rw [hv4] at fv4 o2 rz' ⊢
          clear hv4 nv4
          have hne : w3.heap.size ≠ v3.heap.size := by omega
          have bk := ((hR.out.1.ab (hb3.trans ((fv4).mono hb3.size))).mono (T := fun _ => True) (fun _ _ _ => trivial)).all
          go_wp2_with (first
            | ((with_reducible refine wpl_append_sl _ rfl (.tmp 32) (.tmp 33) 22 rfl w3.heap.size 5 ?_ ?_ _ ?_ [] o2 _ _ ?_ k bk hlo4.out (fv4).size n1 hN4.out ?_); rfl; kernel_rfl; rfl; rfl; intro A4 c4 w4 ho4 hg4 hb4;
                have e4 := Lib.hid ((fv4).grown hg4 (fv4).size (fun k hk => own_base o2 hk));
                have m4 := Lib.hid ((Below.refl w3.heap.size v4).grown hg4 (fv4).size (fun k hk => own_base o2 hk));
                have rz4 := Lib.hid (rz'.fr ((Fr.refl (fun i => i = v3.heap.size) _).grown hg4 (fun k hk => .inl ((Option.some.inj hk).symm))) (fun i hi e => hne (hi.symm.trans e)));
                have ho4' : w4.ownsRow w3.heap.size 5 1 (.slice A4 n1 c4) k.length (k.map u8v) := (by rw [← hl1.out]; exact ho4);
                clear hg4 hb4 ho4 o2 bk))
          refine And.intro m4.out (wpQuiet_nil ?_)
          have bz := (rz4.out.mono (T := fun _ => True) (fun _ _ _ => trivial)).all
          go_wp2_with (first
            | ((with_reducible refine wpl_append_sl _ rfl (.tmp 34) (.tmp 35) 22 rfl w3.heap.size 5 ?_ ?_ _ ?_ k ho4' _ _ ?_ [0] bz hlo6.out (e4.out).size N6 hN6.out ?_); rfl; kernel_rfl; rfl; rfl; intro A6 c6 w6 ho6 hg6 hb6;
                have e6 := (e4.out).grown hg6 (e4.out).size (fun k hk => own_base ho4' hk);
                have m6 := Lib.hid ((Below.refl w3.heap.size w4).grown hg6 (e4.out).size (fun k hk => own_base ho4' hk));
                have r6 : Rd w6 (fun _ => True) A6 N6 c6 (k ++ [0]) := (own_rd ho6).mono (fun _ _ _ => trivial);
                clear hg6 hb6 ho6 ho4' bz))
          refine And.intro m6.out (wpQuiet_nil ?_)
          have hb6 := hb3.trans (e6.mono hb3.size)
          clear m6
          go_wp2_with fail
          refine (tag_any _ (hK.below hb6 hKp) r6 ((hR.out.2.ab hb6).mono (fun _ _ _ => trivial)) hk0.out hm.out).mono ?_
          intro e w8 hd
          obtain ⟨A8, n8, c8, rfl, hr8, hb8'⟩ := hd.rd
          have hb8 := hb6.trans (hb8'.mono hb6.size)
          have h8 : Below w3.heap.size w6 w8 := hb8'.mono e6.size
          rw [htl.out] at hr8
          have b8 := hr8.all
          clear hd hb6 r6 hr8
          go_wp2_with fail
          refine And.intro h8 (wpQuiet_nil ?_)
          go_wp2_with ((with_reducible refine wpl_string_bytes _ rfl 22 9 5 (.tmp 38) rfl ?_ ?_ ?_ w8.heap.size _ ?_ _ b8 ?_); rfl; rfl; rfl; rfl)
          refine And.intro (Below.refl _ _) ?_
          dsimp only
          iterate 2 (go_big_quiet_step (exact fun _ => rfl))
          refine wpQuiet_nil ?_
          go_wp2_with fail
          go_ret
          exact ⟨rfl, hb8⟩
      · have h64 : Hid (n1 = 64) := show n1 = 64 by omega
        have hlI : ¬ (n1 : Int) < (64 : Int) := by omega
        clear hb3 hsT hgt hlt
        go_wp2_with fail
        go_ret
        exact ⟨rfl, hb2⟩
  · rw [decide_eq_false hs]
    go_wp2_with fail
    go_ret
    exact ⟨rfl, hb1⟩
theorem table {W : World} (h : laidMetH Tryd.prog Rows.keyedBlocksRow.laid W) : Lib.TabIs Tryd.prog W "plexus/sha256.constants" .u32 (Sha.K.map fun (n : Nat) => (n : Int)) :=
  Lib.tabIs_of_head (rest := []) gTab gTabType Tryd.underlying76 Tryd.underlying63 cellsWord cellsTab h
theorem contract (H : Type) (enc : TypeId × Value → H) (W : World) (base : Nat) (args : Array Value) (ds gs : List (DataW H)) (before : List MemPlace)
    (hval : ∀ (j : Nat) t v, Tryd.f8.params[j]? = some t → args[j]? = some v → Value.okWide Tryd.prog W .any base t v)
    (hW : DataW.Whole enc Tryd.prog Tryd.f8.params.toList Rows.keyedBlocksSpec.vars false W args.toList ds gs before) (hL : laidMetH Tryd.prog Rows.keyedBlocksRow.laid W) :
    Calls Tryd.prog 8 args W fun e W' => ∃ v, e = .returned v ∧ Rows.keyedBlocksSpec.post enc Tryd.prog Tryd.f8 false true false false W args v W' := by
  have hW' := hW
  obtain ⟨p, q, hA0, hV, rfl, hfz, hnd⟩ := hW
  have hA : DataW.TrodAll enc Tryd.prog W 0 (fun _ => true) true Tryd.f8.params.toList args.toList ds p := hA0
  rw [Tryd.params8] at hA hval
  obtain ⟨v0, vs0, d0, ds0, p0, q0, hargs, rfl, rfl, h0, r0⟩ := trodAll_cons hA
  obtain ⟨v1, vs1, d1, ds1, p1, q1, rfl, rfl, rfl, h1, r1⟩ := trodAll_cons r0
  obtain ⟨rfl, rfl, rfl⟩ := trodAll_nil r1
  obtain rfl : args = #[v0, v1] := by cases args; simp_all
  obtain ⟨rfl, rfl⟩ := trodVars_none hV
  obtain ⟨a0, len0, cap0, rfl⟩ := okWide_slice Tryd.underlying22 (hval 0 22 v0 rfl rfl)
  obtain ⟨a1, len1, cap1, rfl⟩ := okWide_slice Tryd.underlying22 (hval 1 22 v1 rfl rfl)
  have k0 := h0
  have lt0 : ∀ x ∈ p0, x.block < W.heap.size := by obtain ⟨m, hm⟩ := k0; exact DataW.trod_lt m _ _ _ hm
  obtain ⟨z0, w0⟩ := isRow_of_trod Tryd.underlying22 Tryd.underlying5 (by kernel_rfl) h0
  obtain ⟨bs0, hrd0⟩ := rd_of_row w0
  have k1 := h1
  have lt1 : ∀ x ∈ p1, x.block < W.heap.size := by obtain ⟨m, hm⟩ := k1; exact DataW.trod_lt m _ _ _ hm
  obtain ⟨z1, w1⟩ := isRow_of_trod Tryd.underlying22 Tryd.underlying5 (by kernel_rfl) h1
  obtain ⟨bs1, hrd1⟩ := rd_of_row w1
  clear hA0
  refine (walk W (kst_of_tab (table hL)) hrd0 hrd1).mono fun e W' ⟨he, bel⟩ => ?_
  subst he
  exact ⟨_, rfl, _, _, _, [], _, [], hW', trodAll_mk1 (shut_bool Tryd.underlying4 _), (trodAll_cons_mk (Below.trod laidOut (by kernel_rfl) (of_decide_eq_true (by kernel_rfl)) k0 bel lt0) (trodAll_cons_mk (Below.trod laidOut (by kernel_rfl) (of_decide_eq_true (by kernel_rfl)) k1 bel lt1) trodAll_mk0)), rfl, bel.frame _, fun h => by cases h⟩
theorem laid_met (os : Os) : laidMet Tryd.prog Rows.keyedBlocksRow.laid ((laidWorld os).forCall (fun _ _ => 0) ⟨#[], #[.slice none 0 0, .slice none 0 0], []⟩).memory :=
  laidMet_of_run' 8 (by kernel_rfl) (by kernel_rfl)
theorem reads (os : Os) {H : Type} (enc : TypeId × Value → H) : ∃ places, DataW.whole enc Tryd.prog ((laidWorld os).forCall (fun _ _ => 0) ⟨#[], #[.slice none 0 0, .slice none 0 0], []⟩).memory Tryd.f8.params.toList Rows.keyedBlocksSpec.vars false #[Value.slice none 0 0, .slice none 0 0].toList 8 = some ([.nil, .nil], [], places) :=
  ⟨[], by kernel_rfl⟩
set_option maxRecDepth 100000 in
theorem lifted (os : Os) (started : os.Started) (H : Type) (enc : TypeId × Value → H) (F : Stop.Interp) :
    ReturnsInHanded {} Tryd.checked os 8 .any ((OpenSpec.ofChange Rows.keyedBlocksSpec).preRow enc Tryd.prog Tryd.f8 Rows.keyedBlocksRow.domain false Rows.keyedBlocksRow.laid) (((OpenSpec.ofChange Rows.keyedBlocksSpec).at F).post enc Tryd.prog Tryd.f8 false true false false) := by
  obtain ⟨places, hx⟩ := reads os enc
  refine returnsInHanded_of_row (C := Tryd.checked) (s := OpenSpec.ofChange Rows.keyedBlocksSpec) own started (by kernel_rfl) Tryd.func8
    (witness_row_at (enc := enc) (C := Tryd.checked) false (laidWorld os) #[.slice none 0 0, .slice none 0 0] rfl (by kernel_rfl) (by kernel_rfl) (by kernel_rfl)
      (OpenSpec.preRow_of_cond 8 hx (by kernel_rfl) (fun k hk => by cases hk) (by kernel_rfl) (laid_met os))) ?_
  intro W base args ds gs before hval hW _ _ _ hL _ _
  exact contract H enc W base args ds gs before hval hW hL
theorem said : Rows.KeyedBlocksSaid :=
  OpenClaim.holds_of_cond 8 Tryd.f8 rfl rfl rfl rfl rfl rfl rfl ⟨rfl, rfl, rfl, rfl, rfl⟩ rfl rfl rfl rfl rfl (by kernel_rfl) Tryd.func8 (by kernel_rfl)
    (of_decide_eq_true (by kernel_rfl)) (by unfold Func.isWrapper; first | (rw [if_pos (by decide +kernel)]; kernel_rfl) | (rw [if_neg (by decide +kernel)]; exact ⟨rfl, rfl⟩))
    (fun os started H enc _ F => by rw [OpenClaim.pre_eq_preRow]; exact lifted os started H enc F)
theorem plain (f : FuncId) (fn : Func) (hf : Tryd.pinned.checked.prog.funcNamed "plexus/plexuslaw05.KeyedBlocks" = some f) (hfn : Tryd.pinned.checked.prog.funcs[f]? = some fn) :
    false = Tryd.pinned.checked.prog.looks [] ∧ ∀ (j : Nat) t, fn.params[j]? = some t → Tryd.pinned.checked.prog.wantsStandIn t = false := by
  obtain rfl : f = 8 := Option.some.inj ((show Tryd.prog.funcNamed "plexus/plexuslaw05.KeyedBlocks" = some 8 by kernel_rfl).symm.trans hf) |>.symm
  obtain rfl : fn = Tryd.f8 := (Option.some.inj (Tryd.func8.symm.trans hfn)).symm
  refine ⟨by kernel_rfl, fun j t ht => ?_⟩
  rw [Tryd.params8] at ht
  have hm : t = 22 ∨ t = 22 := by simpa using Array.mem_of_getElem? ht
  rcases hm with rfl | rfl
  · exact (show Tryd.prog.wantsStandIn 22 = false by kernel_rfl)
  · exact (show Tryd.prog.wantsStandIn 22 = false by kernel_rfl)
/-- The card. -/
theorem card : Rows.KeyedBlocksCardSaid :=
  Claim7.holds_tied_plain_at .later [] _ _ _ _ said (fun _ h => by cases h) (by kernel_rfl) (fun _ h => by cases h) keyedBlocks_row_tie rfl ⟨rfl, rfl⟩ (by kernel_rfl) rfl plain (by kernel_rfl)
#print axioms card
end Go.Proofs.YtlofgcglnpjceaaDoor.keyedBlocks

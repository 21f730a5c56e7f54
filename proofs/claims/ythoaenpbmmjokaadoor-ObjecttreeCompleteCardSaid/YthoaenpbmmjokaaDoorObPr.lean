/-
  Prove, walked.
-/
import Derived.Test.YthoaenpbmmjokaaDoorObRPr
import Derived.Test.YthoaenpbmmjokaaDoorObBy
import Derived.Laws.ResultCell
namespace Go.Pl
open Go.RowKit
theorem results_row_tmp {P : Program} {fn : Func} {p u : Tmp} {ty : TypeId} (h : fn.results = #[.cell p ty, .tmp u]) (tmps : Array Value) (w : World) (g : Nat) (t : TypeId) (cs : Array Value) (fr : Nat × Nat) (d : TypeDesc) (v : Value)
    (hp : tmps.getD p undef = .pointer (some ⟨g, 0, none⟩)) (hv : tmps.getD u undef = v) (hg : w.heap[g]? = some (.cells cs t fr))
    (hu : P.underlying ty = some d) (hd : (match d with | .struct _ | .array _ _ => true | _ => false) = true) (hi : (P.info? ty).map (·.size) = some cs.size) :
    (results fn tmps).run P w = .ok (.tuple #[.agg cs, v]) w := by
  rw [results_cell_tmp h, hp, hv]
  simp [asAddr, run_loadVar_row w g t ty cs fr d hg hu hd hi]
theorem own_blk_ {w : World} {base g : Nat} {e : TypeId} {n : Nat} {xs : List Value} (h : w.ownsRow base e 1 (.slice (some ⟨g, 0, none⟩) n n) n xs) : Blk w g e xs.toArray := by
  obtain ⟨hl, h⟩ := h
  rcases h with ⟨he, h0⟩ | ⟨g', cap, cur, he, hb, hg, hnc, hcm, hcs, ht⟩
  · cases he
  · cases he
    have : cur.toList = xs := by rw [← ht, List.take_of_length_le (by simp; omega)]
    rw [← this]
    exact hg
theorem rd_blk_ {w : World} {g : Nat} {e : TypeId} {bs : List UInt8} (h : Blk w g e (bs.map u8v).toArray) (hl : bs.length ≤ 1000000) : Rd w (fun i => i = g) (some ⟨g, 0, none⟩) bs.length bs.length bs := by
  refine ⟨rfl, Nat.le_refl _, by simp only [maxLen]; omega, (fun e => by cases e), fun _ => ⟨g, 0, rfl, rfl, h.lt, fun i hi => ?_⟩⟩
  rw [h.cell (0 + i), Nat.zero_add]
  simp [hi, u8v]
end Go.Pl
namespace Go.Proofs.YthoaenpbmmjokaaDoor
open Go.RowKit Go.Pl
set_option maxRecDepth 100000 in
theorem prove_bad (w : World) (key : List UInt8) {A : Option Addr} {n c : Nat} {xs : List Ob.It} (hx : RdI w (fun _ => True) A n c xs) (hn : n ≤ 1000) (hxs : ∀ x ∈ xs, x.key.length ≤ 100000) (hm : ¬ Ob.IsMap xs) :
    Calls Tryd.prog 20 #[.slice A n c, .string ⟨key.toArray⟩] w fun e w' => e = .returned (.tuple #[.agg #[.string ⟨#[]⟩, .bool false, .slice none 0 0, .slice none 0 0], .int .i64 1]) ∧ Below w.heap.size w w' := by
  obtain ⟨w1, hw1⟩ : ∃ x, w.alloc (.cells #[.string ⟨#[]⟩, .bool false, .slice none 0 0, .slice none 0 0] 26) = x := ⟨_, rfl⟩
  have hR1 : Blk w1 w.heap.size 26 #[.string ⟨#[]⟩, .bool false, .slice none 0 0, .slice none 0 0] := by rw [← hw1]; exact Blk.new' rfl
  have hb1 : Below w.heap.size w w1 := by rw [← hw1]; exact (Below.refl _ _).alloc (Nat.le_refl _) _
  go_enter Tryd.func20, Tryd.ntmps20
  go_wp2_with fail
  refine (check_any w1 (hx.fr (Fr.of_below (F := fun _ => False) hb1) (fun _ _ h => h)) (by omega) hxs false ⟨fun h => (by cases h), fun h => (hm h).elim⟩).mono ?_
  rintro e w2 ⟨rfl, hb2⟩
  have hR2 := hR1.below hb2 hR1.lt
  have hb2d := Lib.hid (hb1.trans (hb2.mono hb1.size))
  have hRd := Lib.hid hR2
  have r0 := (hR2.cell 0).trans rfl
  have r1 := (hR2.cell 1).trans rfl
  have r2 := (hR2.cell 2).trans rfl
  have r3 := (hR2.cell 3).trans rfl
  have z0 := hR2.frozen 0
  have z1 := hR2.frozen 1
  have z2 := hR2.frozen 2
  have z3 := hR2.frozen 3
  clear hw1 hR1 hb1 hb2 hx hR2
  go_wp2_with fail
  obtain ⟨kF, fF⟩ := set4 hRd.out (.string ⟨#[]⟩) (.bool false) (.slice none 0 0) (.slice none 0 0)
  have bF := hb2d.out.trans (fF.below (fun i e => by rw [e]; exact Nat.le_refl _) hb2d.out.size)
  try simp only [Exit.inBlock, Exit.then]
  exact bodyPost_ret (results_row_tmp (P := Tryd.prog) Tryd.results20 _ _ w.heap.size 26 _ (0, 0) _ _ rfl rfl kF Tryd.underlying26 rfl (by kernel_rfl)) rfl ⟨rfl, bF⟩
set_option maxRecDepth 100000 in
set_option maxHeartbeats 1000000 in
theorem prove_any (w : World) (hK : Kst w) (key : List UInt8) (hkey : key.length ≤ 65536) {A : Option Addr} {n c : Nat} {xs : List Ob.It} (hx : RdI w (fun _ => True) A n c xs) (hm : Ob.IsMap xs) (hn : n ≤ 1000) (hxs : ∀ x ∈ xs, x.key.length ≤ 100000 ∧ x.content.length ≤ 1000000) :
    Calls Tryd.prog 20 #[.slice A n c, .string ⟨key.toArray⟩] w fun e w' => ∃ s p, e = .returned (.tuple #[.agg (itv (Ob.proveI key xs) s p).toArray, .int .i64 0]) ∧ SlIs w' (fun _ => True) s (Ob.proveI key xs).content ∧ PathIs w' (fun _ => True) p (Ob.proveI key xs).path ∧ Below w.heap.size w w' := by
  have hsz : (⟨key.toArray⟩ : ByteArray).size = key.length := by simp [ByteArray.size]
  have hkI : decide (65536 < key.length) = false := by simp; omega
  have hkJ : decide (65536 < (key.length : Int)) = false := by simp; omega
  have hxd := Lib.hid hx
  have had := Lib.hid (ismap_asc hm)
  have hmd := Lib.hid hm
  have hnd := Lib.hid hn
  have hxsd := Lib.hid hxs
  have hkd := Lib.hid hkey
  obtain ⟨w1, hw1⟩ : ∃ x, w.alloc (.cells #[.string ⟨#[]⟩, .bool false, .slice none 0 0, .slice none 0 0] 26) = x := ⟨_, rfl⟩
  have hR1 : Blk w1 w.heap.size 26 #[.string ⟨#[]⟩, .bool false, .slice none 0 0, .slice none 0 0] := by rw [← hw1]; exact Blk.new' rfl
  have hb1 : Below w.heap.size w w1 := by rw [← hw1]; exact (Below.refl _ _).alloc (Nat.le_refl _) _
  have hR1d := Lib.hid hR1
  have hb1d := Lib.hid hb1
  have hw1d := Lib.hid hw1
  clear hx hm hn hxs hkey hR1 hb1 hw1
  go_enter Tryd.func20, Tryd.ntmps20
  go_wp2_with fail
  rw [hw1d.out]
  refine (check_any w1 (hxd.out.fr (Fr.of_below (F := fun _ => False) hb1d.out) (fun _ _ h => h)) (by have := hnd.out; omega) (fun x h => (hxsd.out x h).1) true ⟨fun _ => hmd.out, fun _ => rfl⟩).mono ?_
  rintro e w2 ⟨rfl, hb2⟩
  have hR2 := Lib.hid (hR1d.out.below hb2 hR1d.out.lt)
  have hb2d := Lib.hid (hb1d.out.trans (hb2.mono hb1d.out.size))
  clear hb2 hw1d hR1d hb1d
  go_wp2_with fail
  obtain ⟨G, hG⟩ : ∃ G, w2.heap.size = G := ⟨_, rfl⟩
  obtain ⟨w3, hw3⟩ : ∃ x, w2.alloc (.cells #[.string ⟨key.toArray⟩, .bool false, .slice none 0 0, .slice none 0 0] 26) = x := ⟨_, rfl⟩
  have hlR := hR2.out.lt
  have hst : Acc w3 26 23 w.heap.size G w.heap.size key (.slice none 0 0) [] [] := by
    refine ⟨?_, ?_, World.ownsRow_nil _ _ _ _, rfl, by omega, by omega, Nat.le_refl _, by decide⟩
    · rw [← hw3]; exact Blk.new' hG.symm
    · rw [← hw3]; exact hR2.out.alloc _
  have hb3 : Below w.heap.size w w3 := by rw [← hw3]; exact hb2d.out.alloc hb2d.out.size _
  have hGB : Hid (w.heap.size < G) := by show _ < _; omega
  rw [hw3, hG]
  have hstd := Lib.hid hst
  have hb3d := Lib.hid hb3
  clear hst hb3 hw3 hG hlR hR2 hb2d
  clear hsz hkI hkJ
  go_loopw [0] (fun t0 wr => ∃ (A' : Option Addr) (n' c' : Nat) (ys : List Ob.It) (PV : Value) (P : List (List UInt8)) (vs : List Value), t0 = .slice A' n' c' ∧ RdI w (fun _ => True) A' n' c' ys ∧ Ob.Asc ys ∧ (∀ x ∈ ys, x.key.length ≤ 100000 ∧ x.content.length ≤ 1000000) ∧
    (P ++ (Ob.follow key ys).1 = (Ob.follow key xs).1 ∧ (Ob.follow key ys).2 = (Ob.follow key xs).2) ∧ P.length + n' ≤ 1000 ∧ Acc wr 26 23 w.heap.size G w.heap.size key PV P vs ∧ Below w.heap.size w wr) (fun t0 _ => lenV t0)
  case atStart => exact ⟨A, n, c, xs, .slice none 0 0, [], [], rfl, hxd.out, had.out, hxsd.out, ⟨rfl, rfl⟩, by have := hnd.out; simpa using this, hstd.out, hb3d.out⟩
  case round =>
    obtain ⟨A', n', c', ys, PV, P, vs, rfl, hys, hya, hyb, hfo, hPn, hacc, hb⟩ := hrel
    have hbd := Lib.hid hb
    have haccd := Lib.hid hacc
    have hysd := Lib.hid hys
    have hyad := Lib.hid hya
    have hybd := Lib.hid hyb
    have hfod := Lib.hid hfo
    have hPnd := Lib.hid hPn
    obtain ⟨PA, pc, rfl⟩ := hacc.shape
    clear hstd hb3d
    by_cases h2 : 2 ≤ n'
    · have hlend : Hid (n' = ys.length) := hys.len
      obtain ⟨x0, x1, t, hx0, hx1, hls, htt, htop, hz0, hz1⟩ := hya.parts (by have := hys.len; omega)
      have htl : t ≤ 1000000 := by
        have := Ob.split_lt (Ob.ne_of_less hls)
        have := (hyb x0 (List.mem_of_getElem? hx0)).1
        omega
      obtain ⟨b, o, s, p, rfl, -, hbl, -⟩ := hys.get hx0
      have htd := Lib.hid htop
      have htld := Lib.hid htl
      have h1I : (1 : Int) < (n' : Int) := by omega
      have h2d := Lib.hid h2
      have hcd : Hid (n' ≤ c' ∧ c' ≤ maxLen) := hys.le
      clear hb hacc hys hya hyb hfo hPn hx0 hx1 hls htt htop htl h2 hbl
      go_wp2_with fail
      refine (halves_any wr (hysd.out.fr (Fr.of_below (F := fun _ => False) hbd.out) (fun _ _ h => h)) t htd.out htld.out h2d.out (by have := hPnd.out; omega) (fun x h => (hybd.out x h).1)).mono ?_
      rintro e w1 ⟨k, A'', rfl, hk, -, -, hA2, hb1⟩
      have hkd2 : Hid (Ob.zeros t ys = k) := hk.symm
      rw [← hk] at hz0 hz1
      have hzd : Hid (0 < k ∧ k < n') := ⟨hz0, by have := hlend.out; omega⟩
      have b1 : Hid (Below w.heap.size w w1) := hbd.out.trans (hb1.mono hbd.out.size)
      have ac1 := Lib.hid (haccd.out.up hb1)
      have hkn : k ≤ n' := by have := hzd.out; omega
      have hck : ¬ c' = k := by have := hzd.out; have := hcd.out; omega
      have hTd : Hid (RdI w (fun _ => True) (some ⟨b, o, none⟩) k c' (ys.take k)) := hysd.out.to hkn
      have hDd : Hid (RdI w (fun _ => True) (some ⟨b, o + k * 4, none⟩) (n' - k) (c' - k) (ys.drop k)) := by
        have h := hysd.out.from_ hkn
        rw [if_neg hck, Option.map_some, add_none] at h
        exact h
      rw [if_neg hck, Option.map_some, add_none] at hA2
      subst hA2
      clear hk hb1 hz0 hz1 hbd haccd hck hkn
      go_wp2_with fail
      refine (bit_any w1 key t (by have := hkd.out; omega) (by have := htld.out; omega)).mono ?_
      rintro e w3 ⟨rfl, rfl⟩
      have hble := Ob.bitN_le key t
      by_cases hb0 : Ob.bitN key t = 1
      · have hbI : ((Ob.bitN key t : Nat) : Int) = 1 := by omega
        have hbz : w1.heap.size ≤ w1.heap.size := Nat.le_refl _
        go_wp2_with (refine wpl_make rfl 23 (.const (.int .i64 36)) (.const (.int .i64 36)) rfl w1.heap.size 5 (.int .u8 0) 1 Tryd.underlying23 infoByte rfl (by decide) .i64 .i64 36 rfl rfl (by omega) hbz ?h0)
        case h0 =>
         intro w2 ho2 hg2
         have b12 : Hid (Below w1.heap.size w1 w2) := (Below.refl _ _).grown hg2 (Nat.le_refl _) (by intro k hk; cases hk)
         obtain ⟨Z, hZ⟩ : ∃ Z, List.replicate 36 (Value.int .u8 0) = Z := ⟨_, rfl⟩
         have hZl : Hid (Z.length = 36) := by show _ = _; rw [← hZ]; simp
         have k2 : Hid (Blk w2 w1.heap.size 5 Z.toArray) := by show Blk _ _ _ _; rw [← hZ]; exact own_blk_ ho2
         obtain ⟨D, hD⟩ : ∃ D, w1.heap.size = D := ⟨_, rfl⟩
         have hDD := Lib.hid hD
         rw [hD] at k2 b12
         rw [hD]
         clear ho2 hg2 hbz hD hZ
         go_wp2_with fail
         refine (number_any w2 t (by have := htld.out; omega)).mono ?_
         rintro e w3 ⟨A3, n3, c3, rfl, hr3, hb3⟩
         have hn3 := hr3.len
         have hnl : (Ob.num t).length = 4 := rfl
         rw [hnl] at hn3
         subst hn3
         have b13 : Hid (Below D w1 w3) := b12.out.trans (hb3.mono (by have := b12.out.size; have := hDD.out; omega))
         have k3 := k2.out.below hb3 k2.out.lt
         have hr3t := hr3.mono (T := fun _ => True) (fun _ _ _ => trivial)
         obtain ⟨M, hM⟩ : ∃ M, Ob.num t = M := ⟨_, rfl⟩
         have hMd := Lib.hid hM
         have hMl : M.length = 4 := by rw [← hM]; rfl
         rw [hM] at hr3t
         have hMld := Lib.hid hMl
         have hcs3 : 4 ≤ Z.toArray.size := by simp; rw [hZl.out]; decide
         clear hr3 hb3 hnl hM k2 b12 hMl
         go_wp2_with (refine wpl_copy_rd rfl (.tmp 41) (.tmp 43) 23 23 rfl 5 Tryd.underlying23 (by kernel_rfl) D 36 36 rfl 5 _ k3 _ _ 4 c3 M hr3t rfl (by decide) hcs3 ?h1)
         case h1 =>
          intro w4 k4 g4
          have b14 : Hid (Below D w1 w4) := b13.out.trans ((Fr.refl (fun i => D ≤ i) w3 |>.grown g4 (fun i e => .inl (by cases e; exact Nat.le_refl _))).below (fun _ h => h) (by have := b13.out.size; have := hDD.out; omega))
          have k4d := Lib.hid k4
          obtain ⟨Y, hY⟩ : ∃ Y, Z.drop 4 = Y := ⟨_, rfl⟩
          have hYl : Hid (Y.length = 32) := by show _ = _; rw [← hY, List.length_drop, hZl.out]
          have k4s : Hid (Blk w4 D 5 (M.map u8v ++ Y).toArray) := by show Blk _ _ _ _; rw [← hY]; exact k4
          clear k3 k4 g4 hr3t b13 k4d hY hcs3
          have b14w : Hid (Below w.heap.size w w4) := b1.out.trans (b14.out.mono (by have := b1.out.size; have := hDD.out; omega))
          go_wp2_with fail
          refine wp_region_late Ab Ab.refl Ab.trans [4] (.one [0, 2] [1] 3 (.one [] [] 4 (.last [] []))) (by kernel_rfl) (by kernel_rfl) (fun _ _ _ _ _ h => h) ?_
          simp only [wpSchV, ordPick, Option.toList_some, List.cons_append, List.nil_append, List.getElem?_cons_succ, List.getElem?_cons_zero]
          have b5w : Hid (Below w.heap.size w w4.drew) := b14w.out.trans ((ab_drew w4).mono b14w.out.size)
          have b15 : Hid (Below D w1 w4.drew) := b14.out.trans ((ab_drew w4).mono (by have := b14.out.size; have := hDD.out; omega))
          have k5 : Hid (Blk w4.drew D 5 (M.map u8v ++ Y).toArray) := k4s.out
          clear b14w b14 k4s
          generalize w4.drew = w5 at b5w b15 k5 ⊢
          iterate 2 (go_big_quiet_step (exact fun _ => rfl))
          refine wpQuiet_nil ?_
          iterate 1 (go_big_quiet_step (exact fun _ => rfl))
          refine wpQuiet_nil ?_
          go_wp2_with fail
          refine (root_any 1000 w5 (hK.below b5w.out hK.pos) _ _ _ (ys.take k) (hTd.out.fr (Fr.of_below (F := fun _ => False) b5w.out) (fun _ _ h => h)) (hyad.out.take k) (by have := hPnd.out; have := hzd.out; omega) (Nat.le_refl _) (fun x h => hybd.out x (List.mem_of_mem_take h))).mono ?_
          rintro e w6 ⟨A6, n6, c6, rfl, hr6, hb6⟩
          have hn6 := hr6.len
          rw [Ob.rootH_len (hyad.out.take k)] at hn6
          subst hn6
          have hb6d : Hid (Ab w5 w6) := hb6
          have b16 : Hid (Below D w1 w6) := b15.out.trans (hb6.mono (by have := b15.out.size; have := hDD.out; omega))
          have k6 := k5.out.below hb6 k5.out.lt
          have hr6t := hr6.mono (T := fun _ => True) (fun _ _ _ => trivial)
          obtain ⟨H, hH⟩ : ∃ H, Ob.rootH (ys.take k) = H := ⟨_, rfl⟩
          have hHd := Lib.hid hH
          have hHl : H.length = 32 := by rw [← hH]; exact Ob.rootH_len (hyad.out.take k)
          have hHld := Lib.hid hHl
          rw [hH] at hr6t
          have hcs6 : 4 + 32 ≤ (M.map u8v ++ Y).toArray.size := by have h1 := hMld.out; have h2 := hYl.out; simp; omega
          clear hr6 hb6 hH hHl k5 b15
          go_wp2_with fail
          refine And.intro (.inr hb6d.out) ?_
          simp only
          refine wpQuiet_nil (wpQuiet_nil ?_)
          clear hb6d
          go_wp2_with (refine wpl_copy_at rfl (.tmp 46) (.tmp 48) 23 23 rfl 5 Tryd.underlying23 (by kernel_rfl) D 4 32 32 rfl 5 _ k6 _ _ 32 c6 H hr6t rfl (by decide) (by decide) hcs6 ?h2)
          case h2 =>
           intro w7 k7 g7
           have b17 : Hid (Below D w1 w7) := b16.out.trans ((Fr.refl (fun i => D ≤ i) w6 |>.grown g7 (fun i e => .inl (by cases e; exact Nat.le_refl _))).below (fun _ h => h) (by have := b16.out.size; have := hDD.out; omega))
           have hml2 : (M ++ H).length = 36 := by rw [List.length_append, hMld.out, hHld.out]
           have hsl : Hid (SlIs w7 (fun i => D ≤ i) (.slice (some ⟨D, 0, none⟩) 36 36) (M ++ H)) := ⟨_, _, _, rfl, by
             have h4 : (M.map u8v).length = 4 := by rw [List.length_map]; exact hMld.out
             have hy := hYl.out
             have k8 : Blk w7 D 5 ((M ++ H).map u8v).toArray := by
               have := k7
               rw [List.take_append_of_le_length (Nat.le_of_eq h4.symm), List.take_of_length_le (Nat.le_of_eq h4), List.drop_of_length_le (by rw [List.length_append, h4, hy]; decide), List.append_nil, ← List.map_append] at this
               exact this
             have := rd_blk_ k8 (by rw [hml2]; decide)
             rw [hml2] at this
             exact this.mono (fun i _ h => by rw [h]; exact Nat.le_refl _)⟩
           clear k6 k7 g7 hr6t hcs6 hml2 b16
           go_wp2_with fail
           refine And.intro (.inl rfl) ?_
           simp only
           refine wpQuiet_nil (wpQuiet_nil ?_)
           have b17' : Below w1.heap.size w1 w7 := by have h := b17.out; rw [← hDD.out] at h; exact h
           have ac5 := ac1.out.up b17'
           have b5 : Hid (Below w.heap.size w w7) := b1.out.trans (b17'.mono b1.out.size)
           have cG := (ac5.g.cell 3).trans rfl
           have ow5 := own_alc ac5.own (.cells #[.slice (some ⟨D, 0, none⟩) 36 36] 23)
           have ro5 := Row.new w7 23 #[.slice (some ⟨D, 0, none⟩) 36 36] (sz := 1) (n := 1) _ rfl rfl (by decide)
           have on5 : ∀ u ∈ #[Value.slice (some ⟨D, 0, none⟩) 36 36].toList, u.oneCell' = true := by intro u hu; simp at hu; rw [hu]; rfl
           have hPn1 : P.length + 1 ≤ 1001 := by have := hPnd.out; omega
           have hbs5 : w.heap.size ≤ (w7.alloc (.cells #[.slice (some ⟨D, 0, none⟩) 36 36] 23)).heap.size := by have := b5.out.size; simp; omega
           have ac5d := Lib.hid ac5
           have hoG : Hid ((Value.slice PA P.length pc).ownBlock ≠ some G) := ac5.notG
           have kG : Hid (Blk (w7.alloc (.cells #[.slice (some ⟨D, 0, none⟩) 36 36] 23)) G 26 #[.string ⟨key.toArray⟩, .bool false, .slice none 0 0, .slice PA P.length pc]) := ac5.g.alloc _
           clear ac5 b17'
           go_wp2_with (at_builtin; refine wpl_app rfl (.tmp 51) (.tmp 53) 24 rfl w.heap.size 23 _ 1 24 Tryd.underlying24 infoBytes rfl (by decide) (by decide) _ rfl P.length vs ow5 _ _ 1 1 rfl _ ro5 on5 (by omega) hbs5 (P.length + 1) rfl ?h3)
           case h3 =>
            intro A8 c8 w8 o6 g6 z6
            have gB : Blk w8 G 26 #[.string ⟨key.toArray⟩, .bool false, .slice none 0 0, .slice PA P.length pc] := kG.out.grown g6 (fun e => hoG.out e.symm)
            have cG6 := (gB.cell 3).trans rfl
            have fG6 := gB.frozen 3
            have hstep := ac5d.out.step (sv := .slice (some ⟨D, 0, none⟩) 36 36) (st := M ++ H) (hsl.out.mono (fun i hi h => ⟨(by have := b1.out.size; have := hDD.out; omega), (by have := ac1.out.g.lt; have := hDD.out; omega), (by have := ac1.out.r.lt; have := hDD.out; omega), fun e => by have := (own_lt ac1.out.own i e).2; have := hDD.out; omega⟩)) o6 g6 z6
            have hstd := Lib.hid hstep
            clear hstep gB o6 g6 z6 ro5 on5 ow5 cG hbs5
            go_wp2_with fail
            go_roundw
            case rel =>
              have hl := hlend.out
              have hkz := hzd.out
              refine ⟨_, _, _, ys.drop k, _, P ++ [M ++ H], _, rfl, hDd.out, hyad.out.drop k, fun x h => hybd.out x (List.mem_of_mem_drop h), ⟨?_, ?_⟩, by rw [List.length_append]; have := hPnd.out; simp; omega, hstd.out.1, b5.out.trans (hstd.out.2.below (fun i e => by rcases e with rfl | e; exact Nat.le_of_lt hGB.out; exact (own_lt ac5d.out.own i e).1) b5.out.size)⟩
              · rw [← hfod.out.1, Ob.follow_one (by omega) htd.out (by have := hkd2.out; omega) (by have := hkd2.out; omega) hb0, hkd2.out, hMd.out, hHd.out, List.append_assoc]
                rfl
              · rw [← hfod.out.2, Ob.follow_one (by omega) htd.out (by have := hkd2.out; omega) (by have := hkd2.out; omega) hb0, hkd2.out]
            case measure => show n' - k < _; have := hzd.out; simp only [lenV]; omega
      · have hbI : ¬ ((Ob.bitN key t : Nat) : Int) = 1 := by omega
        have hbz : w1.heap.size ≤ w1.heap.size := Nat.le_refl _
        go_wp2_with (refine wpl_make rfl 23 (.const (.int .i64 36)) (.const (.int .i64 36)) rfl w1.heap.size 5 (.int .u8 0) 1 Tryd.underlying23 infoByte rfl (by decide) .i64 .i64 36 rfl rfl (by omega) hbz ?h0)
        case h0 =>
         intro w2 ho2 hg2
         have b12 : Hid (Below w1.heap.size w1 w2) := (Below.refl _ _).grown hg2 (Nat.le_refl _) (by intro k hk; cases hk)
         obtain ⟨Z, hZ⟩ : ∃ Z, List.replicate 36 (Value.int .u8 0) = Z := ⟨_, rfl⟩
         have hZl : Hid (Z.length = 36) := by show _ = _; rw [← hZ]; simp
         have k2 : Hid (Blk w2 w1.heap.size 5 Z.toArray) := by show Blk _ _ _ _; rw [← hZ]; exact own_blk_ ho2
         obtain ⟨D, hD⟩ : ∃ D, w1.heap.size = D := ⟨_, rfl⟩
         have hDD := Lib.hid hD
         rw [hD] at k2 b12
         rw [hD]
         clear ho2 hg2 hbz hD hZ
         go_wp2_with fail
         refine (number_any w2 t (by have := htld.out; omega)).mono ?_
         rintro e w3 ⟨A3, n3, c3, rfl, hr3, hb3⟩
         have hn3 := hr3.len
         have hnl : (Ob.num t).length = 4 := rfl
         rw [hnl] at hn3
         subst hn3
         have b13 : Hid (Below D w1 w3) := b12.out.trans (hb3.mono (by have := b12.out.size; have := hDD.out; omega))
         have k3 := k2.out.below hb3 k2.out.lt
         have hr3t := hr3.mono (T := fun _ => True) (fun _ _ _ => trivial)
         obtain ⟨M, hM⟩ : ∃ M, Ob.num t = M := ⟨_, rfl⟩
         have hMd := Lib.hid hM
         have hMl : M.length = 4 := by rw [← hM]; rfl
         rw [hM] at hr3t
         have hMld := Lib.hid hMl
         have hcs3 : 4 ≤ Z.toArray.size := by simp; rw [hZl.out]; decide
         clear hr3 hb3 hnl hM k2 b12 hMl
         go_wp2_with (refine wpl_copy_rd rfl (.tmp 41) (.tmp 43) 23 23 rfl 5 Tryd.underlying23 (by kernel_rfl) D 36 36 rfl 5 _ k3 _ _ 4 c3 M hr3t rfl (by decide) hcs3 ?h1)
         case h1 =>
          intro w4 k4 g4
          have b14 : Hid (Below D w1 w4) := b13.out.trans ((Fr.refl (fun i => D ≤ i) w3 |>.grown g4 (fun i e => .inl (by cases e; exact Nat.le_refl _))).below (fun _ h => h) (by have := b13.out.size; have := hDD.out; omega))
          have k4d := Lib.hid k4
          obtain ⟨Y, hY⟩ : ∃ Y, Z.drop 4 = Y := ⟨_, rfl⟩
          have hYl : Hid (Y.length = 32) := by show _ = _; rw [← hY, List.length_drop, hZl.out]
          have k4s : Hid (Blk w4 D 5 (M.map u8v ++ Y).toArray) := by show Blk _ _ _ _; rw [← hY]; exact k4
          clear k3 k4 g4 hr3t b13 k4d hY hcs3
          have b14w : Hid (Below w.heap.size w w4) := b1.out.trans (b14.out.mono (by have := b1.out.size; have := hDD.out; omega))
          go_wp2_with fail
          refine wp_region_late Ab Ab.refl Ab.trans [4] (.one [0, 2] [1] 3 (.one [] [] 4 (.last [] []))) (by kernel_rfl) (by kernel_rfl) (fun _ _ _ _ _ h => h) ?_
          simp only [wpSchV, ordPick, Option.toList_some, List.cons_append, List.nil_append, List.getElem?_cons_succ, List.getElem?_cons_zero]
          have b5w : Hid (Below w.heap.size w w4.drew) := b14w.out.trans ((ab_drew w4).mono b14w.out.size)
          have b15 : Hid (Below D w1 w4.drew) := b14.out.trans ((ab_drew w4).mono (by have := b14.out.size; have := hDD.out; omega))
          have k5 : Hid (Blk w4.drew D 5 (M.map u8v ++ Y).toArray) := k4s.out
          clear b14w b14 k4s
          generalize w4.drew = w5 at b5w b15 k5 ⊢
          iterate 2 (go_big_quiet_step (exact fun _ => rfl))
          refine wpQuiet_nil ?_
          iterate 1 (go_big_quiet_step (exact fun _ => rfl))
          refine wpQuiet_nil ?_
          go_wp2_with fail
          refine (root_any 1000 w5 (hK.below b5w.out hK.pos) _ _ _ (ys.drop k) (hDd.out.fr (Fr.of_below (F := fun _ => False) b5w.out) (fun _ _ h => h)) (hyad.out.drop k) (by have := hPnd.out; have := hzd.out; omega) (Nat.le_refl _) (fun x h => hybd.out x (List.mem_of_mem_drop h))).mono ?_
          rintro e w6 ⟨A6, n6, c6, rfl, hr6, hb6⟩
          have hn6 := hr6.len
          rw [Ob.rootH_len (hyad.out.drop k)] at hn6
          subst hn6
          have hb6d : Hid (Ab w5 w6) := hb6
          have b16 : Hid (Below D w1 w6) := b15.out.trans (hb6.mono (by have := b15.out.size; have := hDD.out; omega))
          have k6 := k5.out.below hb6 k5.out.lt
          have hr6t := hr6.mono (T := fun _ => True) (fun _ _ _ => trivial)
          obtain ⟨H, hH⟩ : ∃ H, Ob.rootH (ys.drop k) = H := ⟨_, rfl⟩
          have hHd := Lib.hid hH
          have hHl : H.length = 32 := by rw [← hH]; exact Ob.rootH_len (hyad.out.drop k)
          have hHld := Lib.hid hHl
          rw [hH] at hr6t
          have hcs6 : 4 + 32 ≤ (M.map u8v ++ Y).toArray.size := by have h1 := hMld.out; have h2 := hYl.out; simp; omega
          clear hr6 hb6 hH hHl k5 b15
          go_wp2_with fail
          refine And.intro (.inr hb6d.out) ?_
          simp only
          refine wpQuiet_nil (wpQuiet_nil ?_)
          clear hb6d
          go_wp2_with (refine wpl_copy_at rfl (.tmp 46) (.tmp 48) 23 23 rfl 5 Tryd.underlying23 (by kernel_rfl) D 4 32 32 rfl 5 _ k6 _ _ 32 c6 H hr6t rfl (by decide) (by decide) hcs6 ?h2)
          case h2 =>
           intro w7 k7 g7
           have b17 : Hid (Below D w1 w7) := b16.out.trans ((Fr.refl (fun i => D ≤ i) w6 |>.grown g7 (fun i e => .inl (by cases e; exact Nat.le_refl _))).below (fun _ h => h) (by have := b16.out.size; have := hDD.out; omega))
           have hml2 : (M ++ H).length = 36 := by rw [List.length_append, hMld.out, hHld.out]
           have hsl : Hid (SlIs w7 (fun i => D ≤ i) (.slice (some ⟨D, 0, none⟩) 36 36) (M ++ H)) := ⟨_, _, _, rfl, by
             have h4 : (M.map u8v).length = 4 := by rw [List.length_map]; exact hMld.out
             have hy := hYl.out
             have k8 : Blk w7 D 5 ((M ++ H).map u8v).toArray := by
               have := k7
               rw [List.take_append_of_le_length (Nat.le_of_eq h4.symm), List.take_of_length_le (Nat.le_of_eq h4), List.drop_of_length_le (by rw [List.length_append, h4, hy]; decide), List.append_nil, ← List.map_append] at this
               exact this
             have := rd_blk_ k8 (by rw [hml2]; decide)
             rw [hml2] at this
             exact this.mono (fun i _ h => by rw [h]; exact Nat.le_refl _)⟩
           clear k6 k7 g7 hr6t hcs6 hml2 b16
           go_wp2_with fail
           refine And.intro (.inl rfl) ?_
           simp only
           refine wpQuiet_nil (wpQuiet_nil ?_)
           have b17' : Below w1.heap.size w1 w7 := by have h := b17.out; rw [← hDD.out] at h; exact h
           have ac5 := ac1.out.up b17'
           have b5 : Hid (Below w.heap.size w w7) := b1.out.trans (b17'.mono b1.out.size)
           have cG := (ac5.g.cell 3).trans rfl
           have ow5 := own_alc ac5.own (.cells #[.slice (some ⟨D, 0, none⟩) 36 36] 23)
           have ro5 := Row.new w7 23 #[.slice (some ⟨D, 0, none⟩) 36 36] (sz := 1) (n := 1) _ rfl rfl (by decide)
           have on5 : ∀ u ∈ #[Value.slice (some ⟨D, 0, none⟩) 36 36].toList, u.oneCell' = true := by intro u hu; simp at hu; rw [hu]; rfl
           have hPn1 : P.length + 1 ≤ 1001 := by have := hPnd.out; omega
           have hbs5 : w.heap.size ≤ (w7.alloc (.cells #[.slice (some ⟨D, 0, none⟩) 36 36] 23)).heap.size := by have := b5.out.size; simp; omega
           have ac5d := Lib.hid ac5
           have hoG : Hid ((Value.slice PA P.length pc).ownBlock ≠ some G) := ac5.notG
           have kG : Hid (Blk (w7.alloc (.cells #[.slice (some ⟨D, 0, none⟩) 36 36] 23)) G 26 #[.string ⟨key.toArray⟩, .bool false, .slice none 0 0, .slice PA P.length pc]) := ac5.g.alloc _
           clear ac5 b17'
           go_wp2_with (at_builtin; refine wpl_app rfl (.tmp 51) (.tmp 53) 24 rfl w.heap.size 23 _ 1 24 Tryd.underlying24 infoBytes rfl (by decide) (by decide) _ rfl P.length vs ow5 _ _ 1 1 rfl _ ro5 on5 (by omega) hbs5 (P.length + 1) rfl ?h3)
           case h3 =>
            intro A8 c8 w8 o6 g6 z6
            have gB : Blk w8 G 26 #[.string ⟨key.toArray⟩, .bool false, .slice none 0 0, .slice PA P.length pc] := kG.out.grown g6 (fun e => hoG.out e.symm)
            have cG6 := (gB.cell 3).trans rfl
            have fG6 := gB.frozen 3
            have hstep := ac5d.out.step (sv := .slice (some ⟨D, 0, none⟩) 36 36) (st := M ++ H) (hsl.out.mono (fun i hi h => ⟨(by have := b1.out.size; have := hDD.out; omega), (by have := ac1.out.g.lt; have := hDD.out; omega), (by have := ac1.out.r.lt; have := hDD.out; omega), fun e => by have := (own_lt ac1.out.own i e).2; have := hDD.out; omega⟩)) o6 g6 z6
            have hstd := Lib.hid hstep
            clear hstep gB o6 g6 z6 ro5 on5 ow5 cG hbs5
            go_wp2_with fail
            go_roundw
            case rel =>
              have hl := hlend.out
              have hkz := hzd.out
              refine ⟨_, _, _, ys.take k, _, P ++ [M ++ H], _, rfl, hTd.out, hyad.out.take k, fun x h => hybd.out x (List.mem_of_mem_take h), ⟨?_, ?_⟩, by rw [List.length_append]; have := hPnd.out; simp; omega, hstd.out.1, b5.out.trans (hstd.out.2.below (fun i e => by rcases e with rfl | e; exact Nat.le_of_lt hGB.out; exact (own_lt ac5d.out.own i e).1) b5.out.size)⟩
              · rw [← hfod.out.1, Ob.follow_zero (by omega) htd.out (by have := hkd2.out; omega) (by have := hkd2.out; omega) hb0, hkd2.out, hMd.out, hHd.out, List.append_assoc]
                rfl
              · rw [← hfod.out.2, Ob.follow_zero (by omega) htd.out (by have := hkd2.out; omega) (by have := hkd2.out; omega) hb0, hkd2.out]
            case measure => show k < _; have := hzd.out; simp only [lenV]; omega
    · have hs := Ob.follow_small (key := key) (xs := ys) (by have := hys.len; omega)
      have hf1 : P = (Ob.follow key xs).1 := by rw [← hfo.1, hs, List.append_nil]
      have hf2 : ys = (Ob.follow key xs).2 := by rw [← hfo.2, hs]
      have hnI : ¬ (1 : Int) < (n' : Int) := by omega
      have g0 := (hacc.g.cell 0).trans rfl
      have g1 := (hacc.g.cell 1).trans rfl
      have g2 := (hacc.g.cell 2).trans rfl
      have g3 := (hacc.g.cell 3).trans rfl
      have r0 := (hacc.r.cell 0).trans rfl
      have r1 := (hacc.r.cell 1).trans rfl
      have r2 := (hacc.r.cell 2).trans rfl
      have r3 := (hacc.r.cell 3).trans rfl
      have z0 := hacc.r.frozen 0
      have z1 := hacc.r.frozen 1
      have z2 := hacc.r.frozen 2
      have z3 := hacc.r.frozen 3
      have hf1d := Lib.hid hf1
      have hf2d := Lib.hid hf2
      clear hs hf1 hf2 hfod hfo h2
      by_cases h0 : n' = 0
      · subst h0
        clear hb hacc hys hya hyb hPn
        go_wp2_with fail
        obtain ⟨kF, fF⟩ := set4 haccd.out.r (.string ⟨key.toArray⟩) (.bool false) (.slice none 0 0) (.slice PA P.length pc)
        generalize ((((wr.setCell ⟨w.heap.size, 0, none⟩ (.string ⟨key.toArray⟩)).setCell ⟨w.heap.size, 1, none⟩ (.bool false)).setCell ⟨w.heap.size, 2, none⟩ (.slice none 0 0)).setCell ⟨w.heap.size, 3, none⟩ (.slice PA P.length pc)) = wF at kF fF ⊢
        have hyn : ys = [] := List.eq_nil_of_length_eq_zero hysd.out.len.symm
        have hpi := Ob.proveI_nil (key := key) (xs := xs) (by rw [← hf2d.out, hyn])
        rw [← hf1d.out] at hpi
        try simp only [Exit.inBlock, Exit.then]
        refine bodyPost_ret (results_row_tmp (P := Tryd.prog) Tryd.results20 _ _ w.heap.size 26 _ (0, 0) _ _ rfl rfl kF Tryd.underlying26 rfl (by kernel_rfl)) rfl ⟨.slice none 0 0, .slice PA P.length pc, ?_, ?_, ?_, hbd.out.trans (fF.below (fun i e => by rw [e]; exact Nat.le_refl _) hbd.out.size)⟩
        · rw [hpi]; rfl
        · rw [hpi]; exact ⟨none, 0, 0, rfl, rfl, Nat.le_refl _, by simp [maxLen], fun _ => rfl, fun h => by omega⟩
        · rw [hpi]; exact (haccd.out.path.fr fF (fun i k e => k.2.2 e)).mono (fun _ _ _ => trivial)
      · have h1 : n' = 1 := by omega
        subst h1
        obtain ⟨x, rfl⟩ : ∃ x, ys = [x] := by
          match ys, hys.len with
          | [x], _ => exact ⟨x, rfl⟩
        obtain ⟨b, o, s, p, rfl, -, hbl, ⟨A2, n2, c2, rfl, hs⟩, -, hk, -, hc, -⟩ := hys.get (i := 0) (x := x) rfl
        rw [show o + 0 * 4 = o by omega] at hk hc
        have a0 := (hbd.out.cell (p := ⟨b, o, none⟩) hbl).trans hk
        have a2 := (hbd.out.cell (p := ⟨b, o + 2, none⟩) hbl).trans hc
        have hsd := Lib.hid hs
        have hxk : Hid (x.key.length ≤ 100000 ∧ x.content.length ≤ 1000000) := hyb x (by simp)
        have hgl := Lib.hid hacc.g.lt
        have yG := Lib.hid hacc.g
        have yG1 := hacc.g.frozen 1
        have yG2 := hacc.g.frozen 2
        clear hb hacc hys hya hyb hPn hk hc hs h0
        by_cases hkx : x.key = key
        · have hq : ((⟨x.key.toArray⟩ : ByteArray).toList == (⟨key.toArray⟩ : ByteArray).toList) = true := by rw [hkx]; simp
          have hq2 : (x.key == key) = true := by simpa using hkx
          have hkxd := Lib.hid hkx
          clear hkx
          go_upto_region 18 with fail
          obtain ⟨w5, hw5⟩ : ∃ x, wr.setCell ⟨G, 1, none⟩ (.bool true) = x := ⟨_, rfl⟩
          have gB5 : Hid (Blk w5 G 26 #[.string ⟨key.toArray⟩, .bool true, .slice none 0 0, .slice PA P.length pc]) := by
            show Blk _ _ _ _
            rw [← hw5]
            have := yG.out.set_ 1 (.bool true)
            simpa using this
          have f5 : Hid (Fr (fun i => i = G) wr w5) := by show Fr _ _ _; rw [← hw5]; exact (Fr.refl (fun i => i = G) wr).setCell (.inl rfl) _
          have b5 : Hid (Below w.heap.size w w5) := hbd.out.trans (f5.out.below (fun i e => by have := hGB.out; omega) hbd.out.size)
          have e2 := (b5.out.cell (p := ⟨b, o + 2, none⟩) hbl).trans (((hbd.out.cell (p := ⟨b, o + 2, none⟩) hbl).symm).trans a2)
          rw [hw5]
          clear hw5 a0 a2 yG1 yG2 g0 g1 g2 g3 r0 r1 r2 r3 z0 z1 z2 z3
          have ac5 : Hid (Pl.Blk w5 w.heap.size 26 #[.string ⟨#[]⟩, .bool false, .slice none 0 0, .slice none 0 0] ∧ PathIs w5 (fun i => w.heap.size ≤ i ∧ i ≠ G ∧ i ≠ w.heap.size) (.slice PA P.length pc) P) := ⟨haccd.out.r.fr f5.out (fun e => by have := hGB.out; omega), haccd.out.path.fr f5.out (fun i k e => k.2.1 e)⟩
          go_wp2_with fail
          refine (clone_any w5 (hsd.out.fr (Fr.of_below (F := fun _ => False) b5.out) (fun _ _ h => h)) hxk.out.2).mono ?_
          rintro e w6 ⟨A6, n6, c6, rfl, hr6, hb6⟩
          have f6 : Fr (fun _ => False) w5 w6 := Fr.of_below hb6
          have l5d := Lib.hid gB5.out.lt
          have gB6 := gB5.out.fr f6 (fun h => h)
          have fz6 := gB6.frozen 2
          have ac6 : Hid (Pl.Blk w6 w.heap.size 26 #[.string ⟨#[]⟩, .bool false, .slice none 0 0, .slice none 0 0] ∧ PathIs w6 (fun i => w.heap.size ≤ i ∧ i ≠ G ∧ i ≠ w.heap.size) (.slice PA P.length pc) P) := ⟨ac5.out.1.fr f6 (fun h => h), ac5.out.2.fr f6 (fun _ _ h => h)⟩
          have cx := Lib.hid hr6
          have b6 : Hid (Below w.heap.size w w6) := b5.out.trans (hb6.mono b5.out.size)
          have gB6d := Lib.hid gB6
          have c62 := (gB6.cell 2).trans rfl
          clear hr6 hb6 e2 f6 gB6
          go_upto_region 19 with fail
          · obtain ⟨w7, hw7⟩ : ∃ y, w6.setCell ⟨G, 2, none⟩ (.slice A6 n6 c6) = y := ⟨_, rfl⟩
            have gB7 : Blk w7 G 26 #[.string ⟨key.toArray⟩, .bool true, .slice A6 n6 c6, .slice PA P.length pc] := by
              rw [← hw7]
              have := gB6d.out.set_ 2 (.slice A6 n6 c6)
              simpa using this
            have f7 : Fr (fun i => i = G) w6 w7 := by rw [← hw7]; exact (Fr.refl (fun i => i = G) w6).setCell (.inl rfl) _
            rw [hw7]
            have kR := ac6.out.1.fr f7 (fun e => by have := hGB.out; omega)
            have pP : Hid (PathIs w7 (fun i => w.heap.size ≤ i ∧ i ≠ G ∧ i ≠ w.heap.size) (.slice PA P.length pc) P) := ac6.out.2.fr f7 (fun i k e => k.2.1 e)
            have cx7 : Hid (Rd w7 (fun i => w5.heap.size ≤ i) A6 n6 c6 x.content) := cx.out.fr f7 (fun i k e => by have := l5d.out; omega)
            have b7 : Hid (Below w.heap.size w w7) := b6.out.trans (f7.below (fun i e => by have := hGB.out; omega) b6.out.size)
            have g0 := (gB7.cell 0).trans rfl
            have g1 := (gB7.cell 1).trans rfl
            have g2 := (gB7.cell 2).trans rfl
            have g3 := (gB7.cell 3).trans rfl
            have r0 := (kR.cell 0).trans rfl
            have r1 := (kR.cell 1).trans rfl
            have r2 := (kR.cell 2).trans rfl
            have r3 := (kR.cell 3).trans rfl
            have z0 := kR.frozen 0
            have z1 := kR.frozen 1
            have z2 := kR.frozen 2
            have z3 := kR.frozen 3
            have kRd := Lib.hid kR
            clear hw7 gB7 f7 kR c62 fz6
            go_wp2_with fail
            obtain ⟨kF, fF⟩ := set4 kRd.out (.string ⟨key.toArray⟩) (.bool true) (.slice A6 n6 c6) (.slice PA P.length pc)
            generalize ((((w7.setCell ⟨w.heap.size, 0, none⟩ (.string ⟨key.toArray⟩)).setCell ⟨w.heap.size, 1, none⟩ (.bool true)).setCell ⟨w.heap.size, 2, none⟩ (.slice A6 n6 c6)).setCell ⟨w.heap.size, 3, none⟩ (.slice PA P.length pc)) = wF at kF fF ⊢
            have hpi := Ob.proveI_hit hf2d.out hkxd.out
            rw [← hf1d.out] at hpi
            try simp only [Exit.inBlock, Exit.then]
            refine bodyPost_ret (results_row_tmp (P := Tryd.prog) Tryd.results20 _ _ w.heap.size 26 _ (0, 0) _ _ rfl rfl kF Tryd.underlying26 rfl (by kernel_rfl)) rfl ⟨.slice A6 n6 c6, .slice PA P.length pc, ?_, ?_, ?_, b7.out.trans (fF.below (fun i e => by rw [e]; exact Nat.le_refl _) b7.out.size)⟩
            · rw [hpi]; rfl
            · rw [hpi]; exact ⟨_, _, _, rfl, (cx7.out.fr fF (fun i k e => by have := l5d.out; have := hGB.out; omega)).mono (fun _ _ _ => trivial)⟩
            · rw [hpi]; exact (pP.out.fr fF (fun i k e => k.2.2 e)).mono (fun _ _ _ => trivial)
        · have hq : ((⟨x.key.toArray⟩ : ByteArray).toList == (⟨key.toArray⟩ : ByteArray).toList) = false := by rw [Ob.toList_bytes, Ob.toList_bytes]; simpa using hkx
          have hq2 : (x.key == key) = false := by simpa using hkx
          have hkxd := Lib.hid hkx
          clear hkx
          go_upto_region 20 with fail
          have u0 : ∀ w', Below wr.heap.size wr.drew w' → w'.cell? ⟨b, o, none⟩ = some (.string ⟨x.key.toArray⟩) := fun w' h => (Below.cell h (p := ⟨b, o, none⟩) (Nat.lt_of_lt_of_le hbl hbd.out.size)).trans a0
          have u2 : ∀ w', Below wr.heap.size wr.drew w' → w'.cell? ⟨b, o + 2, none⟩ = some (.slice A2 n2 c2) := fun w' h => (Below.cell h (p := ⟨b, o + 2, none⟩) (Nat.lt_of_lt_of_le hbl hbd.out.size)).trans a2
          have u3 : ∀ w', Below wr.heap.size wr.drew w' → w'.cell? ⟨G, 3, none⟩ = some (.slice PA P.length pc) := fun w' h => (Below.cell h (p := ⟨G, 3, none⟩) hgl.out).trans g3
          clear a0 a2 g0 g1 g2 g3 r0 r1 r2 r3 z0 z1 z2 z3 yG1 yG2
          refine wp_region_late (Below wr.heap.size) (Below.refl _) (fun _ _ _ h k => h.trans k) [15, 17] (.two [0, 2, 7] [1, 3, 4, 5, 8, 9, 10] 6 (.one [] [] 11 (.one [] [] 12 (.one [] [] 13 (.one [] [] 14 (.one [] [] 15 (.one [16] [] 17 (.last [] []))))))) 11 (.two [] [] 6 (.one [] [] 12 (.one [] [] 13 (.one [] [] 14 (.one [] [] 15 (.one [16] [] 17 (.last [] [])))))) 12 (.one [] [] 6 (.one [] [] 13 (.one [] [] 14 (.one [] [] 15 (.one [16] [] 17 (.last [] [])))))))) (by kernel_rfl) (by kernel_rfl) (fun _ _ _ _ _ h => h) ?_
          simp only [wpSchV, ordPick, Option.toList_some, List.cons_append, List.nil_append, List.getElem?_cons_succ, List.getElem?_cons_zero]
          have b3 : Hid (Below wr.heap.size wr wr.drew) := (Fr.refl (fun _ => False) wr).drew.below (fun _ h => h.elim) (Nat.le_refl _)
          generalize wr.drew = w3 at u0 u2 u3 b3 ⊢
          iterate 3 (go_big_quiet_step (exact fun _ => rfl))
          refine wpQuiet_nil ?_
          refine wpq_load_one rfl 24 (.tmp 74) rfl ⟨G, 3, none⟩ rfl _ u3 _ Tryd.underlying24 rfl ?_
          simp only [Act.put, List.setIfInBounds_toArray, List.set_cons_succ, List.set_cons_zero]
          iterate 2 (go_big_quiet_step (exact fun _ => rfl))
          refine wpq_load_one rfl 9 (.tmp 78) rfl ⟨b, o, none⟩ rfl _ u0 _ Tryd.underlying9 rfl ?_
          simp only [Act.put, List.setIfInBounds_toArray, List.set_cons_succ, List.set_cons_zero]
          iterate 2 (go_big_quiet_step (exact fun _ => rfl))
          refine wpq_load_one rfl 23 (.tmp 83) rfl ⟨b, o + 2, none⟩ rfl _ u2 _ Tryd.underlying23 rfl ?_
          simp only [Act.put, List.setIfInBounds_toArray, List.set_cons_succ, List.set_cons_zero]
          refine wpQuiet_nil ?_
          clear u0 u2 u3
          refine And.intro ?_ ?_
          · go_wp2_with ((with_reducible refine wpl_bytes_str rfl 9 23 5 (.tmp 79) rfl ?_ ?_ ?_ x.key ?_ (by have := hxk.out.1; simp only [maxLen]; omega) ?_); rfl; rfl; rfl; rfl; intro ck w4 hdk hgk)
            have f4 : Hid (Fr (fun _ => False) w3 w4) := (Fr.refl (fun _ => False) w3).grown hgk (fun k e => by cases e)
            have dk := Lib.hid hdk
            have b4 : Hid (Below wr.heap.size wr w4) := b3.out.trans (f4.out.below (fun _ h => h.elim) b3.out.size)
            clear hgk hdk
            go_wp2_with fail
            refine And.intro (.inr (f4.out.below (fun _ h => h.elim) b3.out.size)) ?_
            simp only
            refine wpQuiet_nil (wpQuiet_nil ?_)
            go_wp2_with fail
            obtain ⟨w5, hw5⟩ : ∃ y, w4.alloc (.cells #[.slice A2 n2 c2] 23) = y := ⟨_, rfl⟩
            have kb : Hid (Blk w5 w4.heap.size 23 #[.slice A2 n2 c2]) := by show Blk _ _ _ _; rw [← hw5]; exact Blk.new' rfl
            have f5 : Hid (Fr (fun _ => False) w4 w5) := by show Fr _ _ _; rw [← hw5]; exact (Fr.refl (fun _ => False) w4).alloc _
            have b5 : Hid (Below wr.heap.size wr w5) := b4.out.trans (f5.out.below (fun _ h => h.elim) b4.out.size)
            refine And.intro (.inr ?_) ?_
            · rw [hw5]; exact f5.out.below (fun _ h => h.elim) b4.out.size
            simp only
            rw [hw5]
            clear hw5
            obtain ⟨KB, hKB0⟩ : ∃ y, w4.heap.size = y := ⟨_, rfl⟩
            rw [hKB0] at kb ⊢
            clear hKB0
            refine wpQuiet_nil (wpQuiet_nil ?_)
            go_wp2_with fail
            refine (sums_any w5 (hK.below (hbd.out.trans (b5.out.mono hbd.out.size)) hK.pos) KB 0 1 1 _ _ rfl (by omega) (parts_one kb.out ((hsd.out.fr (Fr.of_below (F := fun _ => False) hbd.out) (fun _ _ h => h)).fr (Fr.of_below (F := fun _ => False) b5.out) (fun _ _ h => h))) (Nat.le_refl _) (by omega) (by have := hxk.out.2; simp [Lib.lens]; omega)).mono ?_
            rintro e w6 ⟨As, ns, cs, rfl, hrs, hbs⟩
            rw [show [x.content].flatten = x.content by simp] at hrs
            have hns := hrs.len
            rw [Sha.length_sha] at hns
            subst hns
            have f6 : Hid (Fr (fun _ => False) w5 w6) := Fr.of_below hbs
            have rs := Lib.hid (hrs.mono (T := fun _ => True) (fun _ _ _ => trivial))
            have b6 : Hid (Below wr.heap.size wr w6) := b5.out.trans (hbs.mono b5.out.size)
            clear hrs hbs
            go_wp2_with fail
            refine And.intro (.inr (f6.out.below (fun _ h => h.elim) b5.out.size)) ?_
            simp only
            refine wpQuiet_nil (wpQuiet_nil ?_)
            have hKB : Hid (wr.heap.size ≤ w3.heap.size) := by show _ ≤ _; exact b3.out.size
            have hm12 : x.key.length + 32 ≤ 140737488355328 := by have := hxk.out.1; omega
            have dk2 := (dk.out.fr f5.out (fun h => h)).fr f6.out (fun h => h)
            have rs2 := rs.out
            go_wp2_with (at_builtin; refine wpl_append_dig rfl (.tmp 80) (.tmp 86) 23 rfl 5 Tryd.underlying23 infoU8 w3.heap.size ck x.key dk2 rfl _ As 32 cs (Sha.sha x.content) rs2 rfl (by decide) hm12 (x.key.length + 32) rfl ?h4)
            case h4 =>
              intro A6 c6 w8 hr8 hg6
              have f8 : Hid (Fr (fun i => i = w3.heap.size) w6 w8) := (Fr.refl _ w6).grown hg6 (fun k e => .inl (Option.some.inj e).symm)
              have b8 : Hid (Below wr.heap.size wr w8) := b6.out.trans (f8.out.below (fun i e => by rw [e]; exact hKB.out) b6.out.size)
              have r8 : Hid (Rd w8 (fun i => wr.heap.size ≤ i) A6 (x.key.length + 32) c6 (x.key ++ Sha.sha x.content)) := hr8.mono (fun i _ h => by rcases h with h | h; rw [h]; exact hKB.out; exact Nat.le_trans b6.out.size h)
              clear hr8 hg6 dk2 rs2 hm12
              go_wp2_with fail
              refine And.intro (.inr (f8.out.below (fun i e => by rw [e]; exact hKB.out) b6.out.size)) ?_
              simp only
              refine wpQuiet_nil (wpQuiet_nil ?_)
              go_wp2_with fail
              have b87 : Below wr.heap.size w8 (w8.alloc (.cells #[.slice A6 (x.key.length + 32) c6] 23)) := (Below.refl _ _).alloc b8.out.size _
              refine And.intro (.inr b87) ?_
              simp only
              refine wpQuiet_nil (wpQuiet_nil ?_)
              have ac6 := haccd.out.up b8.out
              have ow8 := own_alc ac6.own (.cells #[.slice A6 (x.key.length + 32) c6] 23)
              have ro6 := Row.new w8 23 #[.slice A6 (x.key.length + 32) c6] (sz := 1) (n := 1) _ rfl rfl (by decide)
              have on6 : ∀ u ∈ #[Value.slice A6 (x.key.length + 32) c6].toList, u.oneCell' = true := by intro u hu; simp at hu; rw [hu]; rfl
              have hPn1 : P.length + 1 ≤ 1001 := by have := hPnd.out; omega
              have hbs6 : w.heap.size ≤ (w8.alloc (.cells #[.slice A6 (x.key.length + 32) c6] 23)).heap.size := by have := b8.out.size; have := hbd.out.size; simp; omega
              have hoG : Hid ((Value.slice PA P.length pc).ownBlock ≠ some G) := ac6.notG
              have kG : Hid (Blk (w8.alloc (.cells #[.slice A6 (x.key.length + 32) c6] 23)) G 26 #[.string ⟨key.toArray⟩, .bool false, .slice none 0 0, .slice PA P.length pc]) := ac6.g.alloc _
              have ac6d := Lib.hid ac6
              clear b87 ac6
              go_wp2_with (at_builtin; refine wpl_app rfl (.tmp 75) (.tmp 88) 24 rfl w.heap.size 23 _ 1 24 Tryd.underlying24 infoBytes rfl (by decide) (by decide) _ rfl P.length vs ow8 _ _ 1 1 rfl _ ro6 on6 (by omega) hbs6 (P.length + 1) rfl ?h5)
              case h5 =>
                intro A8 c8 w9y o8 g8 z8
                have gB : Blk w9y G 26 #[.string ⟨key.toArray⟩, .bool false, .slice none 0 0, .slice PA P.length pc] := kG.out.grown g8 (fun e => hoG.out e.symm)
                have cG8 := (gB.cell 3).trans rfl
                have fG8 := gB.frozen 3
                have hstep := ac6d.out.step (sv := .slice A6 (x.key.length + 32) c6) (st := x.key ++ Sha.sha x.content) ⟨_, _, _, rfl, r8.out.mono (fun i hi h => ⟨(by have := hbd.out.size; omega), (by have := hgl.out; have := hGB.out; omega), (by have := hgl.out; have := hGB.out; omega), fun e => by have := (own_lt haccd.out.own i e).2; omega⟩)⟩ o8 g8 z8
                have hstd := Lib.hid hstep
                clear hstep gB o8 g8 z8 ro6 on6 ow8 hbs6
                go_wp2_with fail
                refine And.intro (.inl rfl) ?_
                simp only
                iterate 1 (go_big_quiet_step (exact fun _ => rfl))
                refine wpQuiet_nil (wpQuiet_nil ?_)
                go_wp2_with fail
                refine And.intro (.inl rfl) ?_
                simp only
                refine wpQuiet_nil (wpQuiet_nil ?_)
                generalize w9y.setCell ⟨G, 3, none⟩ (.slice A8 (P.length + 1) c8) = w9 at hstd ⊢
                have b9 : Hid (Below w.heap.size w w9) := hbd.out.trans ((b8.out.mono hbd.out.size).trans (hstd.out.2.below (fun i e => by rcases e with rfl | e; exact Nat.le_of_lt hGB.out; exact (own_lt ac6d.out.own i e).1) (by have := b8.out.size; have := hbd.out.size; omega)))
                have g0 := (hstd.out.1.g.cell 0).trans rfl
                have g1 := (hstd.out.1.g.cell 1).trans rfl
                have g2 := (hstd.out.1.g.cell 2).trans rfl
                have g3 := (hstd.out.1.g.cell 3).trans rfl
                have r0 := (hstd.out.1.r.cell 0).trans rfl
                have r1 := (hstd.out.1.r.cell 1).trans rfl
                have r2 := (hstd.out.1.r.cell 2).trans rfl
                have r3 := (hstd.out.1.r.cell 3).trans rfl
                have z0 := hstd.out.1.r.frozen 0
                have z1 := hstd.out.1.r.frozen 1
                have z2 := hstd.out.1.r.frozen 2
                have z3 := hstd.out.1.r.frozen 3
                clear cG8 fG8
                go_wp2_with fail
                obtain ⟨kF, fF⟩ := set4 hstd.out.1.r (.string ⟨key.toArray⟩) (.bool false) (.slice none 0 0) (.slice A8 (P.length + 1) c8)
                generalize ((((w9.setCell ⟨w.heap.size, 0, none⟩ (.string ⟨key.toArray⟩)).setCell ⟨w.heap.size, 1, none⟩ (.bool false)).setCell ⟨w.heap.size, 2, none⟩ (.slice none 0 0)).setCell ⟨w.heap.size, 3, none⟩ (.slice A8 (P.length + 1) c8)) = wF at kF fF ⊢
                have hpi := Ob.proveI_miss hf2d.out hkxd.out
                rw [← hf1d.out] at hpi
                try simp only [Exit.inBlock, Exit.then]
                refine bodyPost_ret (results_row_tmp (P := Tryd.prog) Tryd.results20 _ _ w.heap.size 26 _ (0, 0) _ _ rfl rfl kF Tryd.underlying26 rfl (by kernel_rfl)) rfl ⟨.slice none 0 0, .slice A8 (P.length + 1) c8, ?_, ?_, ?_, b9.out.trans (fF.below (fun i e => by rw [e]; exact Nat.le_refl _) b9.out.size)⟩
                · rw [hpi]; rfl
                · rw [hpi]; exact ⟨none, 0, 0, rfl, rfl, Nat.le_refl _, by simp [maxLen], fun _ => rfl, fun h => by omega⟩
                · rw [hpi]; exact (hstd.out.1.path.fr fF (fun i k e => k.2.2 e)).mono (fun _ _ _ => trivial)
          · go_wp2_with fail
            obtain ⟨w4, hw4⟩ : ∃ y, w3.alloc (.cells #[.slice A2 n2 c2] 23) = y := ⟨_, rfl⟩
            have kb : Hid (Blk w4 w3.heap.size 23 #[.slice A2 n2 c2]) := by show Blk _ _ _ _; rw [← hw4]; exact Blk.new' rfl
            have f4 : Hid (Fr (fun _ => False) w3 w4) := by show Fr _ _ _; rw [← hw4]; exact (Fr.refl (fun _ => False) w3).alloc _
            have b4 : Hid (Below wr.heap.size wr w4) := b3.out.trans (f4.out.below (fun _ h => h.elim) b3.out.size)
            refine And.intro (.inr ?_) ?_
            · rw [hw4]; exact f4.out.below (fun _ h => h.elim) b3.out.size
            simp only
            rw [hw4]
            clear hw4
            obtain ⟨KB, hKB0⟩ : ∃ y, w3.heap.size = y := ⟨_, rfl⟩
            rw [hKB0] at kb ⊢
            clear hKB0
            refine wpQuiet_nil (wpQuiet_nil ?_)
            refine And.intro ?_ ?_
            · go_wp2_with ((with_reducible refine wpl_bytes_str rfl 9 23 5 (.tmp 79) rfl ?_ ?_ ?_ x.key ?_ (by have := hxk.out.1; simp only [maxLen]; omega) ?_); rfl; rfl; rfl; rfl; intro ck w5 hdk hgk)
              have f5 : Hid (Fr (fun _ => False) w4 w5) := (Fr.refl (fun _ => False) w4).grown hgk (fun k e => by cases e)
              have dk := Lib.hid hdk
              have b5 : Hid (Below wr.heap.size wr w5) := b4.out.trans (f5.out.below (fun _ h => h.elim) b4.out.size)
              clear hgk hdk
              go_wp2_with fail
              refine And.intro (.inr (f5.out.below (fun _ h => h.elim) b4.out.size)) ?_
              simp only
              refine wpQuiet_nil (wpQuiet_nil ?_)
              go_wp2_with fail
              refine (sums_any w5 (hK.below (hbd.out.trans (b5.out.mono hbd.out.size)) hK.pos) KB 0 1 1 _ _ rfl (by omega) (parts_one (kb.out.fr f5.out (fun h => h)) ((hsd.out.fr (Fr.of_below (F := fun _ => False) hbd.out) (fun _ _ h => h)).fr (Fr.of_below (F := fun _ => False) b5.out) (fun _ _ h => h))) (Nat.le_refl _) (by omega) (by have := hxk.out.2; simp [Lib.lens]; omega)).mono ?_
              rintro e w6 ⟨As, ns, cs, rfl, hrs, hbs⟩
              rw [show [x.content].flatten = x.content by simp] at hrs
              have hns := hrs.len
              rw [Sha.length_sha] at hns
              subst hns
              have f6 : Hid (Fr (fun _ => False) w5 w6) := Fr.of_below hbs
              have rs := Lib.hid (hrs.mono (T := fun _ => True) (fun _ _ _ => trivial))
              have b6 : Hid (Below wr.heap.size wr w6) := b5.out.trans (hbs.mono b5.out.size)
              clear hrs hbs
              go_wp2_with fail
              refine And.intro (.inr (f6.out.below (fun _ h => h.elim) b5.out.size)) ?_
              simp only
              refine wpQuiet_nil (wpQuiet_nil ?_)
              have hKB : Hid (wr.heap.size ≤ w4.heap.size) := by show _ ≤ _; exact b4.out.size
              have hm12 : x.key.length + 32 ≤ 140737488355328 := by have := hxk.out.1; omega
              have dk2 := dk.out.fr f6.out (fun h => h)
              have rs2 := rs.out
              go_wp2_with (at_builtin; refine wpl_append_dig rfl (.tmp 80) (.tmp 86) 23 rfl 5 Tryd.underlying23 infoU8 w4.heap.size ck x.key dk2 rfl _ As 32 cs (Sha.sha x.content) rs2 rfl (by decide) hm12 (x.key.length + 32) rfl ?h4)
              case h4 =>
                intro A6 c6 w8 hr8 hg6
                have f8 : Hid (Fr (fun i => i = w4.heap.size) w6 w8) := (Fr.refl _ w6).grown hg6 (fun k e => .inl (Option.some.inj e).symm)
                have b8 : Hid (Below wr.heap.size wr w8) := b6.out.trans (f8.out.below (fun i e => by rw [e]; exact hKB.out) b6.out.size)
                have r8 : Hid (Rd w8 (fun i => wr.heap.size ≤ i) A6 (x.key.length + 32) c6 (x.key ++ Sha.sha x.content)) := hr8.mono (fun i _ h => by rcases h with h | h; rw [h]; exact hKB.out; exact Nat.le_trans b6.out.size h)
                clear hr8 hg6 dk2 rs2 hm12
                go_wp2_with fail
                refine And.intro (.inr (f8.out.below (fun i e => by rw [e]; exact hKB.out) b6.out.size)) ?_
                simp only
                refine wpQuiet_nil (wpQuiet_nil ?_)
                go_wp2_with fail
                have b87 : Below wr.heap.size w8 (w8.alloc (.cells #[.slice A6 (x.key.length + 32) c6] 23)) := (Below.refl _ _).alloc b8.out.size _
                refine And.intro (.inr b87) ?_
                simp only
                refine wpQuiet_nil (wpQuiet_nil ?_)
                have ac6 := haccd.out.up b8.out
                have ow8 := own_alc ac6.own (.cells #[.slice A6 (x.key.length + 32) c6] 23)
                have ro6 := Row.new w8 23 #[.slice A6 (x.key.length + 32) c6] (sz := 1) (n := 1) _ rfl rfl (by decide)
                have on6 : ∀ u ∈ #[Value.slice A6 (x.key.length + 32) c6].toList, u.oneCell' = true := by intro u hu; simp at hu; rw [hu]; rfl
                have hPn1 : P.length + 1 ≤ 1001 := by have := hPnd.out; omega
                have hbs6 : w.heap.size ≤ (w8.alloc (.cells #[.slice A6 (x.key.length + 32) c6] 23)).heap.size := by have := b8.out.size; have := hbd.out.size; simp; omega
                have hoG : Hid ((Value.slice PA P.length pc).ownBlock ≠ some G) := ac6.notG
                have kG : Hid (Blk (w8.alloc (.cells #[.slice A6 (x.key.length + 32) c6] 23)) G 26 #[.string ⟨key.toArray⟩, .bool false, .slice none 0 0, .slice PA P.length pc]) := ac6.g.alloc _
                have ac6d := Lib.hid ac6
                clear b87 ac6
                go_wp2_with (at_builtin; refine wpl_app rfl (.tmp 75) (.tmp 88) 24 rfl w.heap.size 23 _ 1 24 Tryd.underlying24 infoBytes rfl (by decide) (by decide) _ rfl P.length vs ow8 _ _ 1 1 rfl _ ro6 on6 (by omega) hbs6 (P.length + 1) rfl ?h5)
                case h5 =>
                  intro A8 c8 w9y o8 g8 z8
                  have gB : Blk w9y G 26 #[.string ⟨key.toArray⟩, .bool false, .slice none 0 0, .slice PA P.length pc] := kG.out.grown g8 (fun e => hoG.out e.symm)
                  have cG8 := (gB.cell 3).trans rfl
                  have fG8 := gB.frozen 3
                  have hstep := ac6d.out.step (sv := .slice A6 (x.key.length + 32) c6) (st := x.key ++ Sha.sha x.content) ⟨_, _, _, rfl, r8.out.mono (fun i hi h => ⟨(by have := hbd.out.size; omega), (by have := hgl.out; have := hGB.out; omega), (by have := hgl.out; have := hGB.out; omega), fun e => by have := (own_lt haccd.out.own i e).2; omega⟩)⟩ o8 g8 z8
                  have hstd := Lib.hid hstep
                  clear hstep gB o8 g8 z8 ro6 on6 ow8 hbs6
                  go_wp2_with fail
                  refine And.intro (.inl rfl) ?_
                  simp only
                  iterate 1 (go_big_quiet_step (exact fun _ => rfl))
                  refine wpQuiet_nil (wpQuiet_nil ?_)
                  go_wp2_with fail
                  refine And.intro (.inl rfl) ?_
                  simp only
                  refine wpQuiet_nil (wpQuiet_nil ?_)
                  generalize w9y.setCell ⟨G, 3, none⟩ (.slice A8 (P.length + 1) c8) = w9 at hstd ⊢
                  have b9 : Hid (Below w.heap.size w w9) := hbd.out.trans ((b8.out.mono hbd.out.size).trans (hstd.out.2.below (fun i e => by rcases e with rfl | e; exact Nat.le_of_lt hGB.out; exact (own_lt ac6d.out.own i e).1) (by have := b8.out.size; have := hbd.out.size; omega)))
                  have g0 := (hstd.out.1.g.cell 0).trans rfl
                  have g1 := (hstd.out.1.g.cell 1).trans rfl
                  have g2 := (hstd.out.1.g.cell 2).trans rfl
                  have g3 := (hstd.out.1.g.cell 3).trans rfl
                  have r0 := (hstd.out.1.r.cell 0).trans rfl
                  have r1 := (hstd.out.1.r.cell 1).trans rfl
                  have r2 := (hstd.out.1.r.cell 2).trans rfl
                  have r3 := (hstd.out.1.r.cell 3).trans rfl
                  have z0 := hstd.out.1.r.frozen 0
                  have z1 := hstd.out.1.r.frozen 1
                  have z2 := hstd.out.1.r.frozen 2
                  have z3 := hstd.out.1.r.frozen 3
                  clear cG8 fG8
                  go_wp2_with fail
                  obtain ⟨kF, fF⟩ := set4 hstd.out.1.r (.string ⟨key.toArray⟩) (.bool false) (.slice none 0 0) (.slice A8 (P.length + 1) c8)
                  generalize ((((w9.setCell ⟨w.heap.size, 0, none⟩ (.string ⟨key.toArray⟩)).setCell ⟨w.heap.size, 1, none⟩ (.bool false)).setCell ⟨w.heap.size, 2, none⟩ (.slice none 0 0)).setCell ⟨w.heap.size, 3, none⟩ (.slice A8 (P.length + 1) c8)) = wF at kF fF ⊢
                  have hpi := Ob.proveI_miss hf2d.out hkxd.out
                  rw [← hf1d.out] at hpi
                  try simp only [Exit.inBlock, Exit.then]
                  refine bodyPost_ret (results_row_tmp (P := Tryd.prog) Tryd.results20 _ _ w.heap.size 26 _ (0, 0) _ _ rfl rfl kF Tryd.underlying26 rfl (by kernel_rfl)) rfl ⟨.slice none 0 0, .slice A8 (P.length + 1) c8, ?_, ?_, ?_, b9.out.trans (fF.below (fun i e => by rw [e]; exact Nat.le_refl _) b9.out.size)⟩
                  · rw [hpi]; rfl
                  · rw [hpi]; exact ⟨none, 0, 0, rfl, rfl, Nat.le_refl _, by simp [maxLen], fun _ => rfl, fun h => by omega⟩
                  · rw [hpi]; exact (hstd.out.1.path.fr fF (fun i k e => k.2.2 e)).mono (fun _ _ _ => trivial)
            · go_wp2_with fail
              refine (sums_any w4 (hK.below (hbd.out.trans (b4.out.mono hbd.out.size)) hK.pos) KB 0 1 1 _ _ rfl (by omega) (parts_one kb.out ((hsd.out.fr (Fr.of_below (F := fun _ => False) hbd.out) (fun _ _ h => h)).fr (Fr.of_below (F := fun _ => False) b4.out) (fun _ _ h => h))) (Nat.le_refl _) (by omega) (by have := hxk.out.2; simp [Lib.lens]; omega)).mono ?_
              rintro e w5 ⟨As, ns, cs, rfl, hrs, hbs⟩
              rw [show [x.content].flatten = x.content by simp] at hrs
              have hns := hrs.len
              rw [Sha.length_sha] at hns
              subst hns
              have f5 : Hid (Fr (fun _ => False) w4 w5) := Fr.of_below hbs
              have rs := Lib.hid (hrs.mono (T := fun _ => True) (fun _ _ _ => trivial))
              have b5 : Hid (Below wr.heap.size wr w5) := b4.out.trans (hbs.mono b4.out.size)
              clear hrs hbs
              go_wp2_with fail
              refine And.intro (.inr (f5.out.below (fun _ h => h.elim) b4.out.size)) ?_
              simp only
              refine wpQuiet_nil (wpQuiet_nil ?_)
              go_wp2_with ((with_reducible refine wpl_bytes_str rfl 9 23 5 (.tmp 79) rfl ?_ ?_ ?_ x.key ?_ (by have := hxk.out.1; simp only [maxLen]; omega) ?_); rfl; rfl; rfl; rfl; intro ck w6 hdk hgk)
              have f6 : Hid (Fr (fun _ => False) w5 w6) := (Fr.refl (fun _ => False) w5).grown hgk (fun k e => by cases e)
              have dk := Lib.hid hdk
              have b6 : Hid (Below wr.heap.size wr w6) := b5.out.trans (f6.out.below (fun _ h => h.elim) b5.out.size)
              clear hgk hdk
              go_wp2_with fail
              refine And.intro (.inr (f6.out.below (fun _ h => h.elim) b5.out.size)) ?_
              simp only
              refine wpQuiet_nil (wpQuiet_nil ?_)
              have hKB : Hid (wr.heap.size ≤ w5.heap.size) := by show _ ≤ _; exact b5.out.size
              have hm12 : x.key.length + 32 ≤ 140737488355328 := by have := hxk.out.1; omega
              have dk2 := dk.out
              have rs2 := rs.out.fr f6.out (fun _ _ h => h)
              go_wp2_with (at_builtin; refine wpl_append_dig rfl (.tmp 80) (.tmp 86) 23 rfl 5 Tryd.underlying23 infoU8 w5.heap.size ck x.key dk2 rfl _ As 32 cs (Sha.sha x.content) rs2 rfl (by decide) hm12 (x.key.length + 32) rfl ?h4)
              case h4 =>
                intro A6 c6 w8 hr8 hg6
                have f8 : Hid (Fr (fun i => i = w5.heap.size) w6 w8) := (Fr.refl _ w6).grown hg6 (fun k e => .inl (Option.some.inj e).symm)
                have b8 : Hid (Below wr.heap.size wr w8) := b6.out.trans (f8.out.below (fun i e => by rw [e]; exact hKB.out) b6.out.size)
                have r8 : Hid (Rd w8 (fun i => wr.heap.size ≤ i) A6 (x.key.length + 32) c6 (x.key ++ Sha.sha x.content)) := hr8.mono (fun i _ h => by rcases h with h | h; rw [h]; exact hKB.out; exact Nat.le_trans b6.out.size h)
                clear hr8 hg6 dk2 rs2 hm12
                go_wp2_with fail
                refine And.intro (.inr (f8.out.below (fun i e => by rw [e]; exact hKB.out) b6.out.size)) ?_
                simp only
                refine wpQuiet_nil (wpQuiet_nil ?_)
                go_wp2_with fail
                have b87 : Below wr.heap.size w8 (w8.alloc (.cells #[.slice A6 (x.key.length + 32) c6] 23)) := (Below.refl _ _).alloc b8.out.size _
                refine And.intro (.inr b87) ?_
                simp only
                refine wpQuiet_nil (wpQuiet_nil ?_)
                have ac6 := haccd.out.up b8.out
                have ow8 := own_alc ac6.own (.cells #[.slice A6 (x.key.length + 32) c6] 23)
                have ro6 := Row.new w8 23 #[.slice A6 (x.key.length + 32) c6] (sz := 1) (n := 1) _ rfl rfl (by decide)
                have on6 : ∀ u ∈ #[Value.slice A6 (x.key.length + 32) c6].toList, u.oneCell' = true := by intro u hu; simp at hu; rw [hu]; rfl
                have hPn1 : P.length + 1 ≤ 1001 := by have := hPnd.out; omega
                have hbs6 : w.heap.size ≤ (w8.alloc (.cells #[.slice A6 (x.key.length + 32) c6] 23)).heap.size := by have := b8.out.size; have := hbd.out.size; simp; omega
                have hoG : Hid ((Value.slice PA P.length pc).ownBlock ≠ some G) := ac6.notG
                have kG : Hid (Blk (w8.alloc (.cells #[.slice A6 (x.key.length + 32) c6] 23)) G 26 #[.string ⟨key.toArray⟩, .bool false, .slice none 0 0, .slice PA P.length pc]) := ac6.g.alloc _
                have ac6d := Lib.hid ac6
                clear b87 ac6
                go_wp2_with (at_builtin; refine wpl_app rfl (.tmp 75) (.tmp 88) 24 rfl w.heap.size 23 _ 1 24 Tryd.underlying24 infoBytes rfl (by decide) (by decide) _ rfl P.length vs ow8 _ _ 1 1 rfl _ ro6 on6 (by omega) hbs6 (P.length + 1) rfl ?h5)
                case h5 =>
                  intro A8 c8 w9y o8 g8 z8
                  have gB : Blk w9y G 26 #[.string ⟨key.toArray⟩, .bool false, .slice none 0 0, .slice PA P.length pc] := kG.out.grown g8 (fun e => hoG.out e.symm)
                  have cG8 := (gB.cell 3).trans rfl
                  have fG8 := gB.frozen 3
                  have hstep := ac6d.out.step (sv := .slice A6 (x.key.length + 32) c6) (st := x.key ++ Sha.sha x.content) ⟨_, _, _, rfl, r8.out.mono (fun i hi h => ⟨(by have := hbd.out.size; omega), (by have := hgl.out; have := hGB.out; omega), (by have := hgl.out; have := hGB.out; omega), fun e => by have := (own_lt haccd.out.own i e).2; omega⟩)⟩ o8 g8 z8
                  have hstd := Lib.hid hstep
                  clear hstep gB o8 g8 z8 ro6 on6 ow8 hbs6
                  go_wp2_with fail
                  refine And.intro (.inl rfl) ?_
                  simp only
                  iterate 1 (go_big_quiet_step (exact fun _ => rfl))
                  refine wpQuiet_nil (wpQuiet_nil ?_)
                  go_wp2_with fail
                  refine And.intro (.inl rfl) ?_
                  simp only
                  refine wpQuiet_nil (wpQuiet_nil ?_)
                  generalize w9y.setCell ⟨G, 3, none⟩ (.slice A8 (P.length + 1) c8) = w9 at hstd ⊢
                  have b9 : Hid (Below w.heap.size w w9) := hbd.out.trans ((b8.out.mono hbd.out.size).trans (hstd.out.2.below (fun i e => by rcases e with rfl | e; exact Nat.le_of_lt hGB.out; exact (own_lt ac6d.out.own i e).1) (by have := b8.out.size; have := hbd.out.size; omega)))
                  have g0 := (hstd.out.1.g.cell 0).trans rfl
                  have g1 := (hstd.out.1.g.cell 1).trans rfl
                  have g2 := (hstd.out.1.g.cell 2).trans rfl
                  have g3 := (hstd.out.1.g.cell 3).trans rfl
                  have r0 := (hstd.out.1.r.cell 0).trans rfl
                  have r1 := (hstd.out.1.r.cell 1).trans rfl
                  have r2 := (hstd.out.1.r.cell 2).trans rfl
                  have r3 := (hstd.out.1.r.cell 3).trans rfl
                  have z0 := hstd.out.1.r.frozen 0
                  have z1 := hstd.out.1.r.frozen 1
                  have z2 := hstd.out.1.r.frozen 2
                  have z3 := hstd.out.1.r.frozen 3
                  clear cG8 fG8
                  go_wp2_with fail
                  obtain ⟨kF, fF⟩ := set4 hstd.out.1.r (.string ⟨key.toArray⟩) (.bool false) (.slice none 0 0) (.slice A8 (P.length + 1) c8)
                  generalize ((((w9.setCell ⟨w.heap.size, 0, none⟩ (.string ⟨key.toArray⟩)).setCell ⟨w.heap.size, 1, none⟩ (.bool false)).setCell ⟨w.heap.size, 2, none⟩ (.slice none 0 0)).setCell ⟨w.heap.size, 3, none⟩ (.slice A8 (P.length + 1) c8)) = wF at kF fF ⊢
                  have hpi := Ob.proveI_miss hf2d.out hkxd.out
                  rw [← hf1d.out] at hpi
                  try simp only [Exit.inBlock, Exit.then]
                  refine bodyPost_ret (results_row_tmp (P := Tryd.prog) Tryd.results20 _ _ w.heap.size 26 _ (0, 0) _ _ rfl rfl kF Tryd.underlying26 rfl (by kernel_rfl)) rfl ⟨.slice none 0 0, .slice A8 (P.length + 1) c8, ?_, ?_, ?_, b9.out.trans (fF.below (fun i e => by rw [e]; exact Nat.le_refl _) b9.out.size)⟩
                  · rw [hpi]; rfl
                  · rw [hpi]; exact ⟨none, 0, 0, rfl, rfl, Nat.le_refl _, by simp [maxLen], fun _ => rfl, fun h => by omega⟩
                  · rw [hpi]; exact (hstd.out.1.path.fr fF (fun i k e => k.2.2 e)).mono (fun _ _ _ => trivial)
end Go.Proofs.YthoaenpbmmjokaaDoor


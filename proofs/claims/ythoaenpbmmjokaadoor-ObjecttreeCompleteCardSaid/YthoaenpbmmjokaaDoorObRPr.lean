/-
  The reference's Prove, walked.
-/
import Derived.Test.YthoaenpbmmjokaaDoorObDig
namespace Ob
theorem proveI_nil {key : Key} {xs : List It} (h : [] = (follow key xs).2) : proveI key xs = ⟨key, false, [], (follow key xs).1⟩ := by
  unfold proveI
  rw [← h]
theorem proveI_hit {key : Key} {xs : List It} {x : It} (h : [x] = (follow key xs).2) (hk : x.key = key) : proveI key xs = ⟨key, true, x.content, (follow key xs).1⟩ := by
  unfold proveI
  rw [← h]
  exact if_pos hk
theorem proveI_miss {key : Key} {xs : List It} {x : It} (h : [x] = (follow key xs).2) (hk : ¬ x.key = key) : proveI key xs = ⟨key, false, [], (follow key xs).1 ++ [x.key ++ Sha.sha x.content]⟩ := by
  unfold proveI
  rw [← h]
  exact if_neg hk
end Ob
namespace Go.Pl
open Go.RowKit
/-- Four cells of a block, stored. -/
theorem set4 {w : World} {R : Nat} {ti : TypeId} {c0 c1 c2 c3 : Value} (h : Blk w R ti #[c0, c1, c2, c3]) (v0 v1 v2 v3 : Value) :
    Blk ((((w.setCell ⟨R, 0, none⟩ v0).setCell ⟨R, 1, none⟩ v1).setCell ⟨R, 2, none⟩ v2).setCell ⟨R, 3, none⟩ v3) R ti #[v0, v1, v2, v3] ∧ Fr (fun i => i = R) w ((((w.setCell ⟨R, 0, none⟩ v0).setCell ⟨R, 1, none⟩ v1).setCell ⟨R, 2, none⟩ v2).setCell ⟨R, 3, none⟩ v3) := by
  refine ⟨?_, (((Fr.refl (fun i => i = R) w).setCell (.inl rfl) _).setCell (.inl rfl) _ |>.setCell (.inl rfl) _).setCell (.inl rfl) _⟩
  have := (((h.set_ 0 v0).set_ 1 v1).set_ 2 v2).set_ 3 v3
  simpa using this
def lenV : Value → Nat
  | .slice _ n _ => n
  | _ => 0
end Go.Pl
namespace Go.Proofs.YthoaenpbmmjokaaDoor
open Go.RowKit Go.Pl
theorem infoU8 : (Tryd.prog.info? 5).map (fun i => (i.zero, i.size, i.bytes)) = some (some (.int .u8 0), 1, 1) := by kernel_rfl
theorem acc_start (w : World) (key : List UInt8) : Acc ((w.alloc (.cells #[.string ⟨#[]⟩, .bool false, .slice none 0 0, .slice none 0 0] 26)).alloc (.cells #[.string ⟨key.toArray⟩, .bool false, .slice none 0 0, .slice none 0 0] 26)) 26 23 w.heap.size (w.heap.size + 1) w.heap.size key (.slice none 0 0) [] [] := by
  have hs1 : (w.alloc (.cells #[.string ⟨#[]⟩, .bool false, .slice none 0 0, .slice none 0 0] 26)).heap.size = w.heap.size + 1 := Array.size_push _
  refine ⟨?_, (Blk.new' rfl).alloc _, World.ownsRow_nil _ _ _ _, rfl, by omega, by omega, Nat.le_refl _, by decide⟩
  rw [← hs1]
  exact Blk.new' rfl
set_option maxRecDepth 100000 in
set_option maxHeartbeats 1000000 in
theorem refprove_any (w : World) (key : List UInt8) (hkey : key.length ≤ 100000) {A : Option Addr} {n c : Nat} {xs : List Ob.It} (hx : RdI w (fun _ => True) A n c xs) (ha : Ob.Asc xs) (hn : n ≤ 1000) (hxs : ∀ x ∈ xs, x.key.length ≤ 100000 ∧ x.content.length ≤ 1000000) :
    Calls Tryd.prog 29 #[.slice A n c, .string ⟨key.toArray⟩] w fun e w' => ∃ s p, e = .returned (.agg (itv (Ob.proveI key xs) s p).toArray) ∧ SlIs w' (fun _ => True) s (Ob.proveI key xs).content ∧ PathIs w' (fun _ => True) p (Ob.proveI key xs).path ∧ Below w.heap.size w w' := by
  have hxd := Lib.hid hx
  have had := Lib.hid ha
  have hnd := Lib.hid hn
  have hxsd := Lib.hid hxs
  have hkd := Lib.hid hkey
  have hst := acc_start w key
  have hb2 : Below w.heap.size w ((w.alloc (.cells #[.string ⟨#[]⟩, .bool false, .slice none 0 0, .slice none 0 0] 26)).alloc (.cells #[.string ⟨key.toArray⟩, .bool false, .slice none 0 0, .slice none 0 0] 26)) := ((Below.refl _ _).alloc (Nat.le_refl _) _).alloc (by simp) _
  have hstd := Lib.hid hst
  have hb2d := Lib.hid hb2
  clear hx ha hn hxs hkey hst hb2
  go_enter Tryd.func29, Tryd.ntmps29
  go_wp2_with fail
  go_loopw [6] (fun t6 wr => ∃ (A' : Option Addr) (n' c' : Nat) (ys : List Ob.It) (PV : Value) (P : List (List UInt8)) (vs : List Value), t6 = .slice A' n' c' ∧ RdI w (fun _ => True) A' n' c' ys ∧ Ob.Asc ys ∧ (∀ x ∈ ys, x.key.length ≤ 100000 ∧ x.content.length ≤ 1000000) ∧
    (P ++ (Ob.follow key ys).1 = (Ob.follow key xs).1 ∧ (Ob.follow key ys).2 = (Ob.follow key xs).2) ∧ P.length + n' ≤ 1000 ∧ Acc wr 26 23 w.heap.size (w.heap.size + 1) w.heap.size key PV P vs ∧ Below w.heap.size w wr) (fun t6 _ => lenV t6)
  case atStart => exact ⟨A, n, c, xs, .slice none 0 0, [], [], rfl, hxd.out, had.out, hxsd.out, ⟨rfl, rfl⟩, by have := hnd.out; simpa using this, hstd.out, hb2d.out⟩
  case round =>
    obtain ⟨A', n', c', ys, PV, P, vs, rfl, hys, hya, hyb, hfo, hPn, hacc, hb⟩ := hrel
    have hbd := Lib.hid hb
    have haccd := Lib.hid hacc
    have hysd := Lib.hid hys
    have hyad := Lib.hid hya
    have hybd := Lib.hid hyb
    have hfod := Lib.hid hfo
    have hPnd := Lib.hid hPn
    obtain ⟨PA, pc, rfl⟩ := hacc.shape
    by_cases h2 : 2 ≤ n'
    · have hlend : Hid (n' = ys.length) := hys.len
      obtain ⟨x0, x1, t, hx0, hx1, hls, htt, htop, hz0, hz1⟩ := hya.parts (by have := hys.len; omega)
      have htl : t ≤ 1000000 := by
        have := Ob.split_lt (Ob.ne_of_less hls)
        have := (hyb x0 (List.mem_of_getElem? hx0)).1
        omega
      obtain ⟨b, o, s, p, rfl, -, hbl, -⟩ := hys.get hx0
      have htd := Lib.hid htop
      have htld := Lib.hid htl
      have h1I : (1 : Int) < (n' : Int) := by omega
      have h2d := Lib.hid h2
      have hcd : Hid (n' ≤ c' ∧ c' ≤ maxLen) := hys.le
      clear hb hacc hys hya hyb hfo hPn hx0 hx1 hls htt htop htl h2 hbl
      go_wp2_with fail
      refine (refparts_any wr (hysd.out.fr (Fr.of_below (F := fun _ => False) hbd.out) (fun _ _ h => h)) t htd.out htld.out h2d.out (by have := hPnd.out; omega) (fun x h => (hybd.out x h).1) hz1).mono ?_
      rintro e w1 ⟨rfl, hb1⟩
      obtain ⟨k, hk⟩ : ∃ k, Ob.zeros t ys = k := ⟨_, rfl⟩
      rw [hk] at hz0 hz1 ⊢
      have hkd2 := Lib.hid hk
      have hzd : Hid (0 < k ∧ k < n') := ⟨hz0, by have := hlend.out; omega⟩
      have b1 : Hid (Below w.heap.size w w1) := hbd.out.trans (hb1.mono hbd.out.size)
      have ac1 := Lib.hid (haccd.out.up hb1)
      have hkn : k ≤ n' := by have := hzd.out; omega
      have hkc : k ≤ c' := by have := hcd.out; omega
      have hckI : ¬ (c' : Int) = (k : Int) := by have := hzd.out; have := hcd.out; omega
      have hck : ¬ c' = k := by have := hzd.out; have := hcd.out; omega
      have hTd : Hid (RdI w (fun _ => True) (some ⟨b, o, none⟩) k c' (ys.take k)) := hysd.out.to hkn
      have hDd : Hid (RdI w (fun _ => True) (some ⟨b, o + k * 4, none⟩) (n' - k) (c' - k) (ys.drop k)) := by
        have h := hysd.out.from_ hkn
        rw [if_neg hck, Option.map_some, add_none] at h
        exact h
      clear hk hb1 hz0 hz1 hbd haccd
      go_wp2_with fail
      refine (refnumber_any w1 t (by have := htld.out; omega)).mono ?_
      rintro e w2 ⟨A2, c2, rfl, ho2, hb2⟩
      have b12 := Lib.hid hb2
      have b2 : Hid (Below w.heap.size w w2) := b1.out.trans (hb2.mono b1.out.size)
      clear hb2
      go_wp2_with fail
      refine (refbit_any w2 key t (by have := hkd.out; omega) (by have := htld.out; omega)).mono ?_
      rintro e w3 ⟨rfl, rfl⟩
      have hble := Ob.bitN_le key t
      by_cases hb0 : Ob.bitN key t = 0
      · have hbI : ((Ob.bitN key t : Nat) : Int) = 0 := by omega
        go_wp2_with fail
        refine (refroot_any w2 (hDd.out.fr (Fr.of_below (F := fun _ => False) b2.out) (fun _ _ h => h)) (hyad.out.drop k) (by have := hPnd.out; omega) (fun x h => hybd.out x (List.mem_of_mem_drop h))).mono ?_
        rintro e w4 ⟨A4, n4, c4, rfl, hr4, hb4⟩
        have hn4 := hr4.len
        rw [Ob.rootH_len (hyad.out.drop k)] at hn4
        subst hn4
        have b14 : Hid (Below w1.heap.size w1 w4) := b12.out.trans (hb4.mono b12.out.size)
        have ho4 := own_fr ho2 (Fr.of_below (F := fun _ => False) hb4) (fun _ _ h => h)
        have hq4 : Bytes w4 w4.heap.size (.slice A4 32 c4) (Ob.rootH (ys.drop k)) := hr4.bytes (fun i hi _ => hi)
        have hs4 : w1.heap.size ≤ w4.heap.size := b14.out.size
        obtain ⟨M, hM⟩ : ∃ M, Ob.num t = M := ⟨_, rfl⟩
        obtain ⟨H, hH⟩ : ∃ H, Ob.rootH (ys.drop k) = H := ⟨_, rfl⟩
        have hMl : M.length = 4 := by rw [← hM]; rfl
        have hHl : H.length = 32 := by rw [← hH]; exact Ob.rootH_len (hyad.out.drop k)
        rw [hM] at ho4
        rw [hH] at hq4
        have hMd := Lib.hid hM
        have hHd := Lib.hid hH
        have ho4' : w4.ownsRow w1.heap.size 5 1 (.slice A2 4 c2) M.length (M.map u8v) := by rw [hMl]; exact ho4
        have hml : M.length + H.length ≤ 140737488355328 := by omega
        have hml2 : (M ++ H).length = 36 := by rw [List.length_append]; omega
        clear hr4 hb4 ho4 ho2 hM hH hMl hHl
        go_wp2_with (at_builtin; refine wpl_append_sl _ rfl (.tmp 27) (.tmp 31) 23 rfl w1.heap.size 5 Tryd.underlying23 infoU8 _ rfl M ho4' _ _ rfl H hq4 hml hs4 36 hml2 ?h1)
        case h1 =>
         intro A5 c5 w5 ho5 hg5 hz5
         have b15 : Hid (Below w1.heap.size w1 w5) := b14.out.trans (app_below_ hg5 (fun k e => (own_lt ho4' k e).1) hs4)
         have hsl : Hid (SlIs w5 (fun i => w1.heap.size ≤ i) (.slice A5 36 c5) (M ++ H)) := ⟨_, _, _, rfl, by
           have ho6 : w5.ownsRow w1.heap.size 5 1 (.slice A5 (M ++ H).length c5) (M ++ H).length ((M ++ H).map u8v) := by rw [hml2, List.map_append]; exact ho5
           have := own_rd ho6
           rw [hml2] at this
           exact this.mono (fun i _ h => (own_lt ho5 i h).1)⟩
         have ac5 := ac1.out.up b15.out
         have cG := (ac5.g.cell 3).trans rfl
         have b5 : Hid (Below w.heap.size w w5) := b1.out.trans (b15.out.mono b1.out.size)
         have ow5 := own_alc ac5.own (.cells #[.slice A5 36 c5] 23)
         have ro5 := Row.new w5 23 #[.slice A5 36 c5] (sz := 1) (n := 1) _ rfl rfl (by decide)
         have on5 : ∀ u ∈ #[Value.slice A5 36 c5].toList, u.oneCell' = true := by intro u hu; simp at hu; rw [hu]; rfl
         have hPn1 : P.length + 1 ≤ 1001 := by have := hPnd.out; omega
         have hbs5 : w.heap.size ≤ (w5.alloc (.cells #[.slice A5 36 c5] 23)).heap.size := by have := b5.out.size; simp; omega
         have hGl : w.heap.size + 1 < (w5.alloc (.cells #[.slice A5 36 c5] 23)).heap.size := by have := ac5.g.lt; simp; omega
         have ac5d := Lib.hid ac5
         have hoG : Hid ((Value.slice PA P.length pc).ownBlock ≠ some (w.heap.size + 1)) := ac5.notG
         have kG : Hid (Blk (w5.alloc (.cells #[.slice A5 36 c5] 23)) (w.heap.size + 1) 26 #[.string ⟨key.toArray⟩, .bool false, .slice none 0 0, .slice PA P.length pc]) := ac5.g.alloc _
         clear ho4' hq4 hs4 hml ho5 hg5 hz5 ac5
         go_wp2_with (at_builtin; refine wpl_app rfl (.tmp 46) (.tmp 48) 24 rfl w.heap.size 23 _ 1 24 Tryd.underlying24 infoBytes rfl (by decide) (by decide) _ rfl P.length vs ow5 _ _ 1 1 rfl _ ro5 on5 (by omega) hbs5 (P.length + 1) rfl ?h2)
         case h2 =>
           intro A6 c6 w6 o6 g6 z6
           have gB : Blk w6 (w.heap.size + 1) 26 #[.string ⟨key.toArray⟩, .bool false, .slice none 0 0, .slice PA P.length pc] := kG.out.grown g6 (fun e => hoG.out e.symm)
           have cG6 := (gB.cell 3).trans rfl
           have fG6 := gB.frozen 3
           have hstep := ac5d.out.step (sv := .slice A5 36 c5) (st := M ++ H) (hsl.out.mono (fun i hi h => ⟨(by have := b1.out.size; omega), (by have := ac1.out.g.lt; omega), (by have := ac1.out.r.lt; omega), fun e => by have := (own_lt ac1.out.own i e).2; omega⟩)) o6 g6 z6
           have hstd := Lib.hid hstep
           clear hstep gB o6 g6 z6 ro5 on5 ow5 cG hbs5 hGl
           go_wp2_with fail
           go_roundw
           case rel =>
             have hl := hlend.out
             have hkz := hzd.out
             refine ⟨_, _, _, ys.take k, _, P ++ [M ++ H], _, rfl, hTd.out, hyad.out.take k, fun x h => hybd.out x (List.mem_of_mem_take h), ⟨?_, ?_⟩, by rw [List.length_append]; have := hPnd.out; simp; omega, hstd.out.1, b5.out.trans (hstd.out.2.below (fun i e => by rcases e with rfl | e; omega; exact (own_lt ac5d.out.own i e).1) b5.out.size)⟩
             · rw [← hfod.out.1, Ob.follow_zero (by omega) htd.out (by have := hkd2.out; omega) (by have := hkd2.out; omega) (by omega), hkd2.out, hMd.out, hHd.out, List.append_assoc]
               rfl
             · rw [← hfod.out.2, Ob.follow_zero (by omega) htd.out (by have := hkd2.out; omega) (by have := hkd2.out; omega) (by omega), hkd2.out]
           case measure => show k < _; have := hzd.out; simp only [lenV]; omega
      · have hbI : ¬ ((Ob.bitN key t : Nat) : Int) = 0 := by omega
        have hbit : Ob.bitN key t = 1 := by omega
        go_wp2_with fail
        refine (refroot_any w2 (hTd.out.fr (Fr.of_below (F := fun _ => False) b2.out) (fun _ _ h => h)) (hyad.out.take k) (by have := hPnd.out; omega) (fun x h => hybd.out x (List.mem_of_mem_take h))).mono ?_
        rintro e w4 ⟨A4, n4, c4, rfl, hr4, hb4⟩
        have hn4 := hr4.len
        rw [Ob.rootH_len (hyad.out.take k)] at hn4
        subst hn4
        have b14 : Hid (Below w1.heap.size w1 w4) := b12.out.trans (hb4.mono b12.out.size)
        have ho4 := own_fr ho2 (Fr.of_below (F := fun _ => False) hb4) (fun _ _ h => h)
        have hq4 : Bytes w4 w4.heap.size (.slice A4 32 c4) (Ob.rootH (ys.take k)) := hr4.bytes (fun i hi _ => hi)
        have hs4 : w1.heap.size ≤ w4.heap.size := b14.out.size
        obtain ⟨M, hM⟩ : ∃ M, Ob.num t = M := ⟨_, rfl⟩
        obtain ⟨H, hH⟩ : ∃ H, Ob.rootH (ys.take k) = H := ⟨_, rfl⟩
        have hMl : M.length = 4 := by rw [← hM]; rfl
        have hHl : H.length = 32 := by rw [← hH]; exact Ob.rootH_len (hyad.out.take k)
        rw [hM] at ho4
        rw [hH] at hq4
        have hMd := Lib.hid hM
        have hHd := Lib.hid hH
        have ho4' : w4.ownsRow w1.heap.size 5 1 (.slice A2 4 c2) M.length (M.map u8v) := by rw [hMl]; exact ho4
        have hml : M.length + H.length ≤ 140737488355328 := by omega
        have hml2 : (M ++ H).length = 36 := by rw [List.length_append]; omega
        clear hr4 hb4 ho4 ho2 hM hH hMl hHl
        go_wp2_with (at_builtin; refine wpl_append_sl _ rfl (.tmp 36) (.tmp 40) 23 rfl w1.heap.size 5 Tryd.underlying23 infoU8 _ rfl M ho4' _ _ rfl H hq4 hml hs4 36 hml2 ?h1)
        case h1 =>
         intro A5 c5 w5 ho5 hg5 hz5
         have b15 : Hid (Below w1.heap.size w1 w5) := b14.out.trans (app_below_ hg5 (fun k e => (own_lt ho4' k e).1) hs4)
         have hsl : Hid (SlIs w5 (fun i => w1.heap.size ≤ i) (.slice A5 36 c5) (M ++ H)) := ⟨_, _, _, rfl, by
           have ho6 : w5.ownsRow w1.heap.size 5 1 (.slice A5 (M ++ H).length c5) (M ++ H).length ((M ++ H).map u8v) := by rw [hml2, List.map_append]; exact ho5
           have := own_rd ho6
           rw [hml2] at this
           exact this.mono (fun i _ h => (own_lt ho5 i h).1)⟩
         have ac5 := ac1.out.up b15.out
         have cG := (ac5.g.cell 3).trans rfl
         have b5 : Hid (Below w.heap.size w w5) := b1.out.trans (b15.out.mono b1.out.size)
         have ow5 := own_alc ac5.own (.cells #[.slice A5 36 c5] 23)
         have ro5 := Row.new w5 23 #[.slice A5 36 c5] (sz := 1) (n := 1) _ rfl rfl (by decide)
         have on5 : ∀ u ∈ #[Value.slice A5 36 c5].toList, u.oneCell' = true := by intro u hu; simp at hu; rw [hu]; rfl
         have hPn1 : P.length + 1 ≤ 1001 := by have := hPnd.out; omega
         have hbs5 : w.heap.size ≤ (w5.alloc (.cells #[.slice A5 36 c5] 23)).heap.size := by have := b5.out.size; simp; omega
         have hGl : w.heap.size + 1 < (w5.alloc (.cells #[.slice A5 36 c5] 23)).heap.size := by have := ac5.g.lt; simp; omega
         have ac5d := Lib.hid ac5
         have hoG : Hid ((Value.slice PA P.length pc).ownBlock ≠ some (w.heap.size + 1)) := ac5.notG
         have kG : Hid (Blk (w5.alloc (.cells #[.slice A5 36 c5] 23)) (w.heap.size + 1) 26 #[.string ⟨key.toArray⟩, .bool false, .slice none 0 0, .slice PA P.length pc]) := ac5.g.alloc _
         clear ho4' hq4 hs4 hml ho5 hg5 hz5 ac5
         go_wp2_with (at_builtin; refine wpl_app rfl (.tmp 46) (.tmp 48) 24 rfl w.heap.size 23 _ 1 24 Tryd.underlying24 infoBytes rfl (by decide) (by decide) _ rfl P.length vs ow5 _ _ 1 1 rfl _ ro5 on5 (by omega) hbs5 (P.length + 1) rfl ?h2)
         case h2 =>
           intro A6 c6 w6 o6 g6 z6
           have gB : Blk w6 (w.heap.size + 1) 26 #[.string ⟨key.toArray⟩, .bool false, .slice none 0 0, .slice PA P.length pc] := kG.out.grown g6 (fun e => hoG.out e.symm)
           have cG6 := (gB.cell 3).trans rfl
           have fG6 := gB.frozen 3
           have hstep := ac5d.out.step (sv := .slice A5 36 c5) (st := M ++ H) (hsl.out.mono (fun i hi h => ⟨(by have := b1.out.size; omega), (by have := ac1.out.g.lt; omega), (by have := ac1.out.r.lt; omega), fun e => by have := (own_lt ac1.out.own i e).2; omega⟩)) o6 g6 z6
           have hstd := Lib.hid hstep
           clear hstep gB o6 g6 z6 ro5 on5 ow5 cG hbs5 hGl
           go_wp2_with fail
           go_roundw
           case rel =>
             have hl := hlend.out
             have hkz := hzd.out
             refine ⟨_, _, _, ys.drop k, _, P ++ [M ++ H], _, rfl, hDd.out, hyad.out.drop k, fun x h => hybd.out x (List.mem_of_mem_drop h), ⟨?_, ?_⟩, by rw [List.length_append]; have := hPnd.out; simp; omega, hstd.out.1, b5.out.trans (hstd.out.2.below (fun i e => by rcases e with rfl | e; omega; exact (own_lt ac5d.out.own i e).1) b5.out.size)⟩
             · rw [← hfod.out.1, Ob.follow_one (by omega) htd.out (by have := hkd2.out; omega) (by have := hkd2.out; omega) hbit, hkd2.out, hMd.out, hHd.out, List.append_assoc]
               rfl
             · rw [← hfod.out.2, Ob.follow_one (by omega) htd.out (by have := hkd2.out; omega) (by have := hkd2.out; omega) hbit, hkd2.out]
           case measure => show n' - k < _; have := hzd.out; simp only [lenV]; omega
    · have hs := Ob.follow_small (key := key) (xs := ys) (by have := hys.len; omega)
      have hf1 : P = (Ob.follow key xs).1 := by rw [← hfo.1, hs, List.append_nil]
      have hf2 : ys = (Ob.follow key xs).2 := by rw [← hfo.2, hs]
      have hnI : ¬ (1 : Int) < (n' : Int) := by omega
      have g0 := (hacc.g.cell 0).trans rfl
      have g1 := (hacc.g.cell 1).trans rfl
      have g2 := (hacc.g.cell 2).trans rfl
      have g3 := (hacc.g.cell 3).trans rfl
      have r0 := (hacc.r.cell 0).trans rfl
      have r1 := (hacc.r.cell 1).trans rfl
      have r2 := (hacc.r.cell 2).trans rfl
      have r3 := (hacc.r.cell 3).trans rfl
      have z0 := hacc.r.frozen 0
      have z1 := hacc.r.frozen 1
      have z2 := hacc.r.frozen 2
      have z3 := hacc.r.frozen 3
      have hf1d := Lib.hid hf1
      have hf2d := Lib.hid hf2
      clear hs hf1 hf2 hfod hfo h2
      by_cases h0 : n' = 0
      · subst h0
        clear hb hacc hys hya hyb hPn
        go_wp2_with fail
        obtain ⟨kF, fF⟩ := set4 haccd.out.r (.string ⟨key.toArray⟩) (.bool false) (.slice none 0 0) (.slice PA P.length pc)
        generalize ((((wr.setCell ⟨w.heap.size, 0, none⟩ (.string ⟨key.toArray⟩)).setCell ⟨w.heap.size, 1, none⟩ (.bool false)).setCell ⟨w.heap.size, 2, none⟩ (.slice none 0 0)).setCell ⟨w.heap.size, 3, none⟩ (.slice PA P.length pc)) = wF at kF fF ⊢
        have hyn : ys = [] := List.eq_nil_of_length_eq_zero hysd.out.len.symm
        have hpi := Ob.proveI_nil (key := key) (xs := xs) (by rw [← hf2d.out, hyn])
        rw [← hf1d.out] at hpi
        try simp only [Exit.inBlock, Exit.then]
        refine bodyPost_ret (results_cell_row (P := Tryd.prog) Tryd.results29 _ _ w.heap.size 26 _ (0, 0) _ rfl kF Tryd.underlying26 rfl (by kernel_rfl)) rfl ⟨.slice none 0 0, .slice PA P.length pc, ?_, ?_, ?_, hbd.out.trans (fF.below (fun i e => by rw [e]; exact Nat.le_refl _) hbd.out.size)⟩
        · rw [hpi]; rfl
        · rw [hpi]; exact ⟨none, 0, 0, rfl, rfl, Nat.le_refl _, by simp [maxLen], fun _ => rfl, fun h => by omega⟩
        · rw [hpi]; exact (haccd.out.path.fr fF (fun i k e => k.2.2 e)).mono (fun _ _ _ => trivial)
      · have h1 : n' = 1 := by omega
        subst h1
        obtain ⟨x, rfl⟩ : ∃ x, ys = [x] := by
          match ys, hys.len with
          | [x], _ => exact ⟨x, rfl⟩
        obtain ⟨b, o, s, p, rfl, -, hbl, ⟨A2, n2, c2, rfl, hs⟩, -, hk, -, hc, -⟩ := hys.get (i := 0) (x := x) rfl
        rw [show o + 0 * 4 = o by omega] at hk hc
        have a0 := (hbd.out.cell (p := ⟨b, o, none⟩) hbl).trans hk
        have a2 := (hbd.out.cell (p := ⟨b, o + 2, none⟩) hbl).trans hc
        have hsd := Lib.hid hs
        have hxk : Hid (x.key.length ≤ 100000 ∧ x.content.length ≤ 1000000) := hyb x (by simp)
        have hgl := Lib.hid hacc.g.lt
        have yG := Lib.hid hacc.g
        have yG1 := hacc.g.frozen 1
        have yG2 := hacc.g.frozen 2
        clear hb hacc hys hya hyb hPn hk hc hs h0
        by_cases hkx : x.key = key
        · have hq : ((⟨x.key.toArray⟩ : ByteArray).toList == (⟨key.toArray⟩ : ByteArray).toList) = true := by rw [hkx]; simp
          have hq2 : (x.key == key) = true := by simpa using hkx
          have hkxd := Lib.hid hkx
          clear hkx
          go_upto_region 16 with fail
          obtain ⟨w5, hw5⟩ : ∃ x, wr.setCell ⟨w.heap.size + 1, 1, none⟩ (.bool true) = x := ⟨_, rfl⟩
          have gB5 : Hid (Blk w5 (w.heap.size + 1) 26 #[.string ⟨key.toArray⟩, .bool true, .slice none 0 0, .slice PA P.length pc]) := by
            show Blk _ _ _ _
            rw [← hw5]
            have := yG.out.set_ 1 (.bool true)
            simpa using this
          have f5 : Hid (Fr (fun i => i = w.heap.size + 1) wr w5) := by show Fr _ _ _; rw [← hw5]; exact (Fr.refl (fun i => i = w.heap.size + 1) wr).setCell (.inl rfl) _
          have b5 : Hid (Below w.heap.size w w5) := hbd.out.trans (f5.out.below (fun i e => by omega) hbd.out.size)
          have e2 := (b5.out.cell (p := ⟨b, o + 2, none⟩) hbl).trans (((hbd.out.cell (p := ⟨b, o + 2, none⟩) hbl).symm).trans a2)
          rw [hw5]
          clear hw5 a0 a2 yG1 yG2 g0 g1 g2 g3 r0 r1 r2 r3 z0 z1 z2 z3
          have e3 : (w5.alloc (.cells #[] 5)).cell? ⟨b, o + 2, none⟩ = some (.slice A2 n2 c2) := (((Below.refl w5.heap.size w5).alloc (Nat.le_refl _) _).cell (p := ⟨b, o + 2, none⟩) (Nat.lt_of_lt_of_le hbl b5.out.size)).trans e2
          clear e2
          have hown := made0_ w5 5 1 w.heap.size b5.out.size
          have hcb : Bytes (w5.alloc (.cells #[] 5)) (w5.alloc (.cells #[] 5)).heap.size (.slice A2 n2 c2) x.content := ((hsd.out.fr (Fr.of_below (F := fun _ => False) b5.out) (fun _ _ h => h)).fr ((Fr.refl (fun _ => False) w5).alloc _) (fun _ _ h => h)).bytes (fun i hi _ => hi)
          have hcl : ([] : List UInt8).length + x.content.length ≤ 140737488355328 := by have := hxk.out.2; simp; omega
          have hbs : w.heap.size ≤ (w5.alloc (.cells #[] 5)).heap.size := by have := b5.out.size; simp; omega
          have ac5 : Hid (Pl.Blk w5 w.heap.size 26 #[.string ⟨#[]⟩, .bool false, .slice none 0 0, .slice none 0 0] ∧ PathIs w5 (fun i => w.heap.size ≤ i ∧ i ≠ w.heap.size + 1 ∧ i ≠ w.heap.size) (.slice PA P.length pc) P) := ⟨haccd.out.r.fr f5.out (fun e => by omega), haccd.out.path.fr f5.out (fun i k e => k.2.1 e)⟩
          go_wp2_with (at_builtin; refine wpl_append_sl _ rfl (.tmp 62) (.tmp 66) 23 rfl w.heap.size 5 Tryd.underlying23 infoU8 _ rfl [] hown _ _ rfl x.content hcb hcl hbs x.content.length (by simp) ?h3)
          case h3 =>
            intro A6 c6 w6 o6 g6 z6
            have l5 := gB5.out.lt
            have f6 : Fr (fun _ => False) w5 w6 := ((Fr.refl (fun _ => False) w5).alloc (.cells #[] 5)).grown g6 (fun k e => .inr (by have : w5.heap.size = k := Option.some.inj e; omega))
            have gB6 := gB5.out.fr f6 (fun h => h)
            have fz6 := gB6.frozen 2
            have ac6 : Hid (Pl.Blk w6 w.heap.size 26 #[.string ⟨#[]⟩, .bool false, .slice none 0 0, .slice none 0 0] ∧ PathIs w6 (fun i => w.heap.size ≤ i ∧ i ≠ w.heap.size + 1 ∧ i ≠ w.heap.size) (.slice PA P.length pc) P) := ⟨ac5.out.1.fr f6 (fun h => h), ac5.out.2.fr f6 (fun _ _ h => h)⟩
            have cx : Hid (Rd w6 (fun i => w5.heap.size ≤ i) A6 x.content.length c6 x.content) := by
              have o7 : w6.ownsRow w.heap.size 5 1 (.slice A6 x.content.length c6) x.content.length (x.content.map u8v) := by simpa using o6
              have h := own_rd o7
              refine h.mono (fun i hi e => ?_)
              rcases z6 with z | z
              · rw [z] at e
                have : w5.heap.size = i := Option.some.inj e
                omega
              · rw [z] at e
                have : w5.heap.size + 1 = i := Option.some.inj e
                omega
            have b6 : Hid (Below w.heap.size w w6) := b5.out.trans (f6.below (fun _ h => h.elim) b5.out.size)
            have gB6d := Lib.hid gB6
            have l5d := Lib.hid l5
            have c62 := (gB6.cell 2).trans rfl
            clear o6 g6 z6 hown hcb hcl hbs e3 f6 gB6 l5
            go_upto_region 17 with fail
            obtain ⟨w7, hw7⟩ : ∃ y, w6.setCell ⟨w.heap.size + 1, 2, none⟩ (.slice A6 x.content.length c6) = y := ⟨_, rfl⟩
            have gB7 : Blk w7 (w.heap.size + 1) 26 #[.string ⟨key.toArray⟩, .bool true, .slice A6 x.content.length c6, .slice PA P.length pc] := by
              rw [← hw7]
              have := gB6d.out.set_ 2 (.slice A6 x.content.length c6)
              simpa using this
            have f7 : Fr (fun i => i = w.heap.size + 1) w6 w7 := by rw [← hw7]; exact (Fr.refl (fun i => i = w.heap.size + 1) w6).setCell (.inl rfl) _
            rw [hw7]
            have kR := ac6.out.1.fr f7 (fun e => by omega)
            have pP : Hid (PathIs w7 (fun i => w.heap.size ≤ i ∧ i ≠ w.heap.size + 1 ∧ i ≠ w.heap.size) (.slice PA P.length pc) P) := ac6.out.2.fr f7 (fun i k e => k.2.1 e)
            have cx7 : Hid (Rd w7 (fun i => w5.heap.size ≤ i) A6 x.content.length c6 x.content) := cx.out.fr f7 (fun i k e => by have := l5d.out; omega)
            have b7 : Hid (Below w.heap.size w w7) := b6.out.trans (f7.below (fun i e => by omega) b6.out.size)
            have g0 := (gB7.cell 0).trans rfl
            have g1 := (gB7.cell 1).trans rfl
            have g2 := (gB7.cell 2).trans rfl
            have g3 := (gB7.cell 3).trans rfl
            have r0 := (kR.cell 0).trans rfl
            have r1 := (kR.cell 1).trans rfl
            have r2 := (kR.cell 2).trans rfl
            have r3 := (kR.cell 3).trans rfl
            have z0 := kR.frozen 0
            have z1 := kR.frozen 1
            have z2 := kR.frozen 2
            have z3 := kR.frozen 3
            have kRd := Lib.hid kR
            clear hw7 gB7 f7 kR c62 fz6
            go_wp2_with fail
            obtain ⟨kF, fF⟩ := set4 kRd.out (.string ⟨key.toArray⟩) (.bool true) (.slice A6 x.content.length c6) (.slice PA P.length pc)
            generalize ((((w7.setCell ⟨w.heap.size, 0, none⟩ (.string ⟨key.toArray⟩)).setCell ⟨w.heap.size, 1, none⟩ (.bool true)).setCell ⟨w.heap.size, 2, none⟩ (.slice A6 x.content.length c6)).setCell ⟨w.heap.size, 3, none⟩ (.slice PA P.length pc)) = wF at kF fF ⊢
            have hpi := Ob.proveI_hit hf2d.out hkxd.out
            rw [← hf1d.out] at hpi
            try simp only [Exit.inBlock, Exit.then]
            refine bodyPost_ret (results_cell_row (P := Tryd.prog) Tryd.results29 _ _ w.heap.size 26 _ (0, 0) _ rfl kF Tryd.underlying26 rfl (by kernel_rfl)) rfl ⟨.slice A6 x.content.length c6, .slice PA P.length pc, ?_, ?_, ?_, b7.out.trans (fF.below (fun i e => by rw [e]; exact Nat.le_refl _) b7.out.size)⟩
            · rw [hpi]; rfl
            · rw [hpi]; exact ⟨_, _, _, rfl, (cx7.out.fr fF (fun i k e => by have := l5d.out; omega)).mono (fun _ _ _ => trivial)⟩
            · rw [hpi]; exact (pP.out.fr fF (fun i k e => k.2.2 e)).mono (fun _ _ _ => trivial)
        · have hq : ((⟨x.key.toArray⟩ : ByteArray).toList == (⟨key.toArray⟩ : ByteArray).toList) = false := by rw [Ob.toList_bytes, Ob.toList_bytes]; simpa using hkx
          have hq2 : (x.key == key) = false := by simpa using hkx
          have hkxd := Lib.hid hkx
          clear hkx
          go_upto_region 18 with fail
          have u0 : ∀ w', Below wr.heap.size wr.drew w' → w'.cell? ⟨b, o, none⟩ = some (.string ⟨x.key.toArray⟩) := fun w' h => (Below.cell h (p := ⟨b, o, none⟩) (Nat.lt_of_lt_of_le hbl hbd.out.size)).trans a0
          have u2 : ∀ w', Below wr.heap.size wr.drew w' → w'.cell? ⟨b, o + 2, none⟩ = some (.slice A2 n2 c2) := fun w' h => (Below.cell h (p := ⟨b, o + 2, none⟩) (Nat.lt_of_lt_of_le hbl hbd.out.size)).trans a2
          have u3 : ∀ w', Below wr.heap.size wr.drew w' → w'.cell? ⟨w.heap.size + 1, 3, none⟩ = some (.slice PA P.length pc) := fun w' h => (Below.cell h (p := ⟨w.heap.size + 1, 3, none⟩) hgl.out).trans g3
          clear a0 a2 g0 g1 g2 g3 r0 r1 r2 r3 z0 z1 z2 z3 yG1 yG2
          refine wp_region_late (Below wr.heap.size) (Below.refl _) (fun _ _ _ h k => h.trans k) [14, 16] (.two [0, 2, 7] [1, 3, 4, 5, 8, 9, 10] 6 (.one [] [] 11 (.one [] [] 12 (.one [] [] 13 (.one [] [] 14 (.one [15] [] 16 (.last [] [])))))) 11 (.one [] [] 6 (.one [] [] 12 (.one [] [] 13 (.one [] [] 14 (.one [15] [] 16 (.last [] []))))))) (by kernel_rfl) (by kernel_rfl) (fun _ _ _ _ _ h => h) ?_
          simp only [wpSchV, ordPick, Option.toList_some, List.cons_append, List.nil_append, List.getElem?_cons_succ, List.getElem?_cons_zero]
          have b3 : Hid (Below wr.heap.size wr wr.drew) := (Fr.refl (fun _ => False) wr).drew.below (fun _ h => h.elim) (Nat.le_refl _)
          generalize wr.drew = w3 at u0 u2 u3 b3 ⊢
          iterate 3 (go_big_quiet_step (exact fun _ => rfl))
          refine wpQuiet_nil ?_
          refine wpq_load_one rfl 24 (.tmp 70) rfl ⟨w.heap.size + 1, 3, none⟩ rfl _ u3 _ Tryd.underlying24 rfl ?_
          simp only [Act.put, List.setIfInBounds_toArray, List.set_cons_succ, List.set_cons_zero]
          iterate 2 (go_big_quiet_step (exact fun _ => rfl))
          refine wpq_load_one rfl 9 (.tmp 74) rfl ⟨b, o, none⟩ rfl _ u0 _ Tryd.underlying9 rfl ?_
          simp only [Act.put, List.setIfInBounds_toArray, List.set_cons_succ, List.set_cons_zero]
          iterate 2 (go_big_quiet_step (exact fun _ => rfl))
          refine wpq_load_one rfl 23 (.tmp 79) rfl ⟨b, o + 2, none⟩ rfl _ u2 _ Tryd.underlying23 rfl ?_
          simp only [Act.put, List.setIfInBounds_toArray, List.set_cons_succ, List.set_cons_zero]
          refine wpQuiet_nil ?_
          clear u0 u2 u3
          refine And.intro ?_ ?_
          · go_wp2_with ((with_reducible refine wpl_bytes_str rfl 9 23 5 (.tmp 75) rfl ?_ ?_ ?_ x.key ?_ (by have := hxk.out.1; simp only [maxLen]; omega) ?_); rfl; rfl; rfl; rfl; intro ck w4 hdk hgk)
            have fk : Hid (Fr (fun _ => False) w3 w4) := (Fr.refl (fun _ => False) w3).grown hgk (fun k e => by cases e)
            have dk := Lib.hid hdk
            have b4 : Hid (Below wr.heap.size wr w4) := b3.out.trans (fk.out.below (fun _ h => h.elim) b3.out.size)
            clear hgk hdk
            go_wp2_with fail
            refine And.intro (.inr (fk.out.below (fun _ h => h.elim) b3.out.size)) ?_
            simp only
            refine wpQuiet_nil (wpQuiet_nil ?_)
            go_wp2_with fail
            refine (refsums_any w4 ((hsd.out.fr (Fr.of_below (F := fun _ => False) hbd.out) (fun _ _ h => h)).fr (Fr.of_below (F := fun _ => False) b4.out) (fun _ _ h => h)) (by have := hxk.out.2; omega)).mono ?_
            rintro e w5 ⟨As, ns, cs, rfl, hrs, hbs⟩
            have hns := hrs.len
            rw [Sha.length_sha] at hns
            subst hns
            have fs : Hid (Fr (fun _ => False) w4 w5) := Fr.of_below hbs
            have rs := Lib.hid (hrs.mono (T := fun _ => True) (fun _ _ _ => trivial))
            have b5 : Hid (Below wr.heap.size wr w5) := b4.out.trans (hbs.mono b4.out.size)
            clear hrs hbs
            go_wp2_with fail
            refine And.intro (.inr (fs.out.below (fun _ h => h.elim) b4.out.size)) ?_
            simp only
            refine wpQuiet_nil (wpQuiet_nil ?_)
            have hKB : Hid (wr.heap.size ≤ w3.heap.size) := by show _ ≤ _; exact b3.out.size
            have hm12 : x.key.length + 32 ≤ 140737488355328 := by have := hxk.out.1; omega
            have dk2 := dk.out.fr fs.out (fun h => h)
            have rs2 := rs.out
            go_wp2_with (at_builtin; refine wpl_append_dig rfl (.tmp 76) (.tmp 81) 23 rfl 5 Tryd.underlying23 infoU8 w3.heap.size ck x.key dk2 rfl _ As 32 cs (Sha.sha x.content) rs2 rfl (by decide) hm12 (x.key.length + 32) rfl ?h4)
            case h4 =>
              intro A6 c6 w6 hr6 hg6
              have f6 : Hid (Fr (fun i => i = w3.heap.size) w5 w6) := (Fr.refl _ w5).grown hg6 (fun k e => .inl (Option.some.inj e).symm)
              have b6 : Hid (Below wr.heap.size wr w6) := b5.out.trans (f6.out.below (fun i e => by rw [e]; exact hKB.out) b5.out.size)
              have r6 : Hid (Rd w6 (fun i => wr.heap.size ≤ i) A6 (x.key.length + 32) c6 (x.key ++ Sha.sha x.content)) := hr6.mono (fun i _ h => by rcases h with h | h; rw [h]; exact hKB.out; exact Nat.le_trans b5.out.size h)
              clear hr6 hg6 dk2 rs2 hm12
              go_wp2_with fail
              refine And.intro (.inr (f6.out.below (fun i e => by rw [e]; exact hKB.out) b5.out.size)) ?_
              simp only
              refine wpQuiet_nil (wpQuiet_nil ?_)
              go_wp2_with fail
              have b67 : Below wr.heap.size w6 (w6.alloc (.cells #[.slice A6 (x.key.length + 32) c6] 23)) := (Below.refl _ _).alloc b6.out.size _
              refine And.intro (.inr b67) ?_
              simp only
              refine wpQuiet_nil (wpQuiet_nil ?_)
              have ac6 := haccd.out.up b6.out
              have ow6 := own_alc ac6.own (.cells #[.slice A6 (x.key.length + 32) c6] 23)
              have ro6 := Row.new w6 23 #[.slice A6 (x.key.length + 32) c6] (sz := 1) (n := 1) _ rfl rfl (by decide)
              have on6 : ∀ u ∈ #[Value.slice A6 (x.key.length + 32) c6].toList, u.oneCell' = true := by intro u hu; simp at hu; rw [hu]; rfl
              have hPn1 : P.length + 1 ≤ 1001 := by have := hPnd.out; omega
              have hbs6 : w.heap.size ≤ (w6.alloc (.cells #[.slice A6 (x.key.length + 32) c6] 23)).heap.size := by have := b6.out.size; have := hbd.out.size; simp; omega
              have hoG : Hid ((Value.slice PA P.length pc).ownBlock ≠ some (w.heap.size + 1)) := ac6.notG
              have kG : Hid (Blk (w6.alloc (.cells #[.slice A6 (x.key.length + 32) c6] 23)) (w.heap.size + 1) 26 #[.string ⟨key.toArray⟩, .bool false, .slice none 0 0, .slice PA P.length pc]) := ac6.g.alloc _
              have ac6d := Lib.hid ac6
              clear b67 ac6
              go_wp2_with (at_builtin; refine wpl_app rfl (.tmp 71) (.tmp 83) 24 rfl w.heap.size 23 _ 1 24 Tryd.underlying24 infoBytes rfl (by decide) (by decide) _ rfl P.length vs ow6 _ _ 1 1 rfl _ ro6 on6 (by omega) hbs6 (P.length + 1) rfl ?h5)
              case h5 =>
                intro A8 c8 w8 o8 g8 z8
                have gB : Blk w8 (w.heap.size + 1) 26 #[.string ⟨key.toArray⟩, .bool false, .slice none 0 0, .slice PA P.length pc] := kG.out.grown g8 (fun e => hoG.out e.symm)
                have cG8 := (gB.cell 3).trans rfl
                have fG8 := gB.frozen 3
                have hstep := ac6d.out.step (sv := .slice A6 (x.key.length + 32) c6) (st := x.key ++ Sha.sha x.content) ⟨_, _, _, rfl, r6.out.mono (fun i hi h => ⟨(by have := hbd.out.size; omega), (by have := hgl.out; omega), (by have := hgl.out; omega), fun e => by have := (own_lt haccd.out.own i e).2; omega⟩)⟩ o8 g8 z8
                have hstd := Lib.hid hstep
                clear hstep gB o8 g8 z8 ro6 on6 ow6 hbs6
                go_wp2_with fail
                refine And.intro (.inl rfl) ?_
                simp only
                iterate 1 (go_big_quiet_step (exact fun _ => rfl))
                refine wpQuiet_nil (wpQuiet_nil ?_)
                go_wp2_with fail
                refine And.intro (.inl rfl) ?_
                simp only
                refine wpQuiet_nil (wpQuiet_nil ?_)
                generalize w8.setCell ⟨w.heap.size + 1, 3, none⟩ (.slice A8 (P.length + 1) c8) = w9 at hstd ⊢
                have b9 : Hid (Below w.heap.size w w9) := hbd.out.trans ((b6.out.mono hbd.out.size).trans (hstd.out.2.below (fun i e => by rcases e with rfl | e; omega; exact (own_lt ac6d.out.own i e).1) (by have := b6.out.size; have := hbd.out.size; omega)))
                have g0 := (hstd.out.1.g.cell 0).trans rfl
                have g1 := (hstd.out.1.g.cell 1).trans rfl
                have g2 := (hstd.out.1.g.cell 2).trans rfl
                have g3 := (hstd.out.1.g.cell 3).trans rfl
                have r0 := (hstd.out.1.r.cell 0).trans rfl
                have r1 := (hstd.out.1.r.cell 1).trans rfl
                have r2 := (hstd.out.1.r.cell 2).trans rfl
                have r3 := (hstd.out.1.r.cell 3).trans rfl
                have z0 := hstd.out.1.r.frozen 0
                have z1 := hstd.out.1.r.frozen 1
                have z2 := hstd.out.1.r.frozen 2
                have z3 := hstd.out.1.r.frozen 3
                clear cG8 fG8
                go_wp2_with fail
                obtain ⟨kF, fF⟩ := set4 hstd.out.1.r (.string ⟨key.toArray⟩) (.bool false) (.slice none 0 0) (.slice A8 (P.length + 1) c8)
                generalize ((((w9.setCell ⟨w.heap.size, 0, none⟩ (.string ⟨key.toArray⟩)).setCell ⟨w.heap.size, 1, none⟩ (.bool false)).setCell ⟨w.heap.size, 2, none⟩ (.slice none 0 0)).setCell ⟨w.heap.size, 3, none⟩ (.slice A8 (P.length + 1) c8)) = wF at kF fF ⊢
                have hpi := Ob.proveI_miss hf2d.out hkxd.out
                rw [← hf1d.out] at hpi
                try simp only [Exit.inBlock, Exit.then]
                refine bodyPost_ret (results_cell_row (P := Tryd.prog) Tryd.results29 _ _ w.heap.size 26 _ (0, 0) _ rfl kF Tryd.underlying26 rfl (by kernel_rfl)) rfl ⟨.slice none 0 0, .slice A8 (P.length + 1) c8, ?_, ?_, ?_, b9.out.trans (fF.below (fun i e => by rw [e]; exact Nat.le_refl _) b9.out.size)⟩
                · rw [hpi]; rfl
                · rw [hpi]; exact ⟨none, 0, 0, rfl, rfl, Nat.le_refl _, by simp [maxLen], fun _ => rfl, fun h => by omega⟩
                · rw [hpi]; exact (hstd.out.1.path.fr fF (fun i k e => k.2.2 e)).mono (fun _ _ _ => trivial)
          · go_wp2_with fail
            refine (refsums_any w3 ((hsd.out.fr (Fr.of_below (F := fun _ => False) hbd.out) (fun _ _ h => h)).fr (Fr.of_below (F := fun _ => False) b3.out) (fun _ _ h => h)) (by have := hxk.out.2; omega)).mono ?_
            rintro e w4 ⟨As, ns, cs, rfl, hrs, hbs⟩
            have hns := hrs.len
            rw [Sha.length_sha] at hns
            subst hns
            have fs : Hid (Fr (fun _ => False) w3 w4) := Fr.of_below hbs
            have rs := Lib.hid (hrs.mono (T := fun _ => True) (fun _ _ _ => trivial))
            have b4 : Hid (Below wr.heap.size wr w4) := b3.out.trans (hbs.mono b3.out.size)
            clear hrs hbs
            go_wp2_with fail
            refine And.intro (.inr (fs.out.below (fun _ h => h.elim) b3.out.size)) ?_
            simp only
            refine wpQuiet_nil (wpQuiet_nil ?_)
            go_wp2_with ((with_reducible refine wpl_bytes_str rfl 9 23 5 (.tmp 75) rfl ?_ ?_ ?_ x.key ?_ (by have := hxk.out.1; simp only [maxLen]; omega) ?_); rfl; rfl; rfl; rfl; intro ck w5 hdk hgk)
            have fk : Hid (Fr (fun _ => False) w4 w5) := (Fr.refl (fun _ => False) w4).grown hgk (fun k e => by cases e)
            have dk := Lib.hid hdk
            have b5 : Hid (Below wr.heap.size wr w5) := b4.out.trans (fk.out.below (fun _ h => h.elim) b4.out.size)
            clear hgk hdk
            go_wp2_with fail
            refine And.intro (.inr (fk.out.below (fun _ h => h.elim) b4.out.size)) ?_
            simp only
            refine wpQuiet_nil (wpQuiet_nil ?_)
            have hKB : Hid (wr.heap.size ≤ w4.heap.size) := by show _ ≤ _; exact b4.out.size
            have hm12 : x.key.length + 32 ≤ 140737488355328 := by have := hxk.out.1; omega
            have dk2 := dk.out
            have rs2 := rs.out.fr fk.out (fun _ _ h => h)
            go_wp2_with (at_builtin; refine wpl_append_dig rfl (.tmp 76) (.tmp 81) 23 rfl 5 Tryd.underlying23 infoU8 w4.heap.size ck x.key dk2 rfl _ As 32 cs (Sha.sha x.content) rs2 rfl (by decide) hm12 (x.key.length + 32) rfl ?h4)
            case h4 =>
              intro A6 c6 w6 hr6 hg6
              have f6 : Hid (Fr (fun i => i = w4.heap.size) w5 w6) := (Fr.refl _ w5).grown hg6 (fun k e => .inl (Option.some.inj e).symm)
              have b6 : Hid (Below wr.heap.size wr w6) := b5.out.trans (f6.out.below (fun i e => by rw [e]; exact hKB.out) b5.out.size)
              have r6 : Hid (Rd w6 (fun i => wr.heap.size ≤ i) A6 (x.key.length + 32) c6 (x.key ++ Sha.sha x.content)) := hr6.mono (fun i _ h => by rcases h with h | h; rw [h]; exact hKB.out; exact Nat.le_trans b5.out.size h)
              clear hr6 hg6 dk2 rs2 hm12
              go_wp2_with fail
              refine And.intro (.inr (f6.out.below (fun i e => by rw [e]; exact hKB.out) b5.out.size)) ?_
              simp only
              refine wpQuiet_nil (wpQuiet_nil ?_)
              go_wp2_with fail
              have b67 : Below wr.heap.size w6 (w6.alloc (.cells #[.slice A6 (x.key.length + 32) c6] 23)) := (Below.refl _ _).alloc b6.out.size _
              refine And.intro (.inr b67) ?_
              simp only
              refine wpQuiet_nil (wpQuiet_nil ?_)
              have ac6 := haccd.out.up b6.out
              have ow6 := own_alc ac6.own (.cells #[.slice A6 (x.key.length + 32) c6] 23)
              have ro6 := Row.new w6 23 #[.slice A6 (x.key.length + 32) c6] (sz := 1) (n := 1) _ rfl rfl (by decide)
              have on6 : ∀ u ∈ #[Value.slice A6 (x.key.length + 32) c6].toList, u.oneCell' = true := by intro u hu; simp at hu; rw [hu]; rfl
              have hPn1 : P.length + 1 ≤ 1001 := by have := hPnd.out; omega
              have hbs6 : w.heap.size ≤ (w6.alloc (.cells #[.slice A6 (x.key.length + 32) c6] 23)).heap.size := by have := b6.out.size; have := hbd.out.size; simp; omega
              have hoG : Hid ((Value.slice PA P.length pc).ownBlock ≠ some (w.heap.size + 1)) := ac6.notG
              have kG : Hid (Blk (w6.alloc (.cells #[.slice A6 (x.key.length + 32) c6] 23)) (w.heap.size + 1) 26 #[.string ⟨key.toArray⟩, .bool false, .slice none 0 0, .slice PA P.length pc]) := ac6.g.alloc _
              have ac6d := Lib.hid ac6
              clear b67 ac6
              go_wp2_with (at_builtin; refine wpl_app rfl (.tmp 71) (.tmp 83) 24 rfl w.heap.size 23 _ 1 24 Tryd.underlying24 infoBytes rfl (by decide) (by decide) _ rfl P.length vs ow6 _ _ 1 1 rfl _ ro6 on6 (by omega) hbs6 (P.length + 1) rfl ?h5)
              case h5 =>
                intro A8 c8 w8 o8 g8 z8
                have gB : Blk w8 (w.heap.size + 1) 26 #[.string ⟨key.toArray⟩, .bool false, .slice none 0 0, .slice PA P.length pc] := kG.out.grown g8 (fun e => hoG.out e.symm)
                have cG8 := (gB.cell 3).trans rfl
                have fG8 := gB.frozen 3
                have hstep := ac6d.out.step (sv := .slice A6 (x.key.length + 32) c6) (st := x.key ++ Sha.sha x.content) ⟨_, _, _, rfl, r6.out.mono (fun i hi h => ⟨(by have := hbd.out.size; omega), (by have := hgl.out; omega), (by have := hgl.out; omega), fun e => by have := (own_lt haccd.out.own i e).2; omega⟩)⟩ o8 g8 z8
                have hstd := Lib.hid hstep
                clear hstep gB o8 g8 z8 ro6 on6 ow6 hbs6
                go_wp2_with fail
                refine And.intro (.inl rfl) ?_
                simp only
                iterate 1 (go_big_quiet_step (exact fun _ => rfl))
                refine wpQuiet_nil (wpQuiet_nil ?_)
                go_wp2_with fail
                refine And.intro (.inl rfl) ?_
                simp only
                refine wpQuiet_nil (wpQuiet_nil ?_)
                generalize w8.setCell ⟨w.heap.size + 1, 3, none⟩ (.slice A8 (P.length + 1) c8) = w9 at hstd ⊢
                have b9 : Hid (Below w.heap.size w w9) := hbd.out.trans ((b6.out.mono hbd.out.size).trans (hstd.out.2.below (fun i e => by rcases e with rfl | e; omega; exact (own_lt ac6d.out.own i e).1) (by have := b6.out.size; have := hbd.out.size; omega)))
                have g0 := (hstd.out.1.g.cell 0).trans rfl
                have g1 := (hstd.out.1.g.cell 1).trans rfl
                have g2 := (hstd.out.1.g.cell 2).trans rfl
                have g3 := (hstd.out.1.g.cell 3).trans rfl
                have r0 := (hstd.out.1.r.cell 0).trans rfl
                have r1 := (hstd.out.1.r.cell 1).trans rfl
                have r2 := (hstd.out.1.r.cell 2).trans rfl
                have r3 := (hstd.out.1.r.cell 3).trans rfl
                have z0 := hstd.out.1.r.frozen 0
                have z1 := hstd.out.1.r.frozen 1
                have z2 := hstd.out.1.r.frozen 2
                have z3 := hstd.out.1.r.frozen 3
                clear cG8 fG8
                go_wp2_with fail
                obtain ⟨kF, fF⟩ := set4 hstd.out.1.r (.string ⟨key.toArray⟩) (.bool false) (.slice none 0 0) (.slice A8 (P.length + 1) c8)
                generalize ((((w9.setCell ⟨w.heap.size, 0, none⟩ (.string ⟨key.toArray⟩)).setCell ⟨w.heap.size, 1, none⟩ (.bool false)).setCell ⟨w.heap.size, 2, none⟩ (.slice none 0 0)).setCell ⟨w.heap.size, 3, none⟩ (.slice A8 (P.length + 1) c8)) = wF at kF fF ⊢
                have hpi := Ob.proveI_miss hf2d.out hkxd.out
                rw [← hf1d.out] at hpi
                try simp only [Exit.inBlock, Exit.then]
                refine bodyPost_ret (results_cell_row (P := Tryd.prog) Tryd.results29 _ _ w.heap.size 26 _ (0, 0) _ rfl kF Tryd.underlying26 rfl (by kernel_rfl)) rfl ⟨.slice none 0 0, .slice A8 (P.length + 1) c8, ?_, ?_, ?_, b9.out.trans (fF.below (fun i e => by rw [e]; exact Nat.le_refl _) b9.out.size)⟩
                · rw [hpi]; rfl
                · rw [hpi]; exact ⟨none, 0, 0, rfl, rfl, Nat.le_refl _, by simp [maxLen], fun _ => rfl, fun h => by omega⟩
                · rw [hpi]; exact (hstd.out.1.path.fr fF (fun i k e => k.2.2 e)).mono (fun _ _ _ => trivial)
end Go.Proofs.YthoaenpbmmjokaaDoor


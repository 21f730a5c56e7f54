/-
  The reference's Under, Digest, Children, Match, Same; the law's digests; walked.
-/
import Derived.Test.YtajohibeoicepaaDoorSyBeg
import Derived.Test.YtajohibeoicepaaDoorSyKid
import Derived.Test.YtajohibeoicepaaDoorRefSum
namespace Go.Proofs.YtajohibeoicepaaDoor
open Go.RowKit Go.Pl
set_option maxRecDepth 100000 in
theorem rpart_els (w : World) {S : Nat → Prop} {A P : Option Addr} {n c pn pc : Nat} {s : List Sy.Cm} {ps : List UInt8} (hS : ∀ i, S i → i < w.heap.size) (hs : RdE lCm w S A n c s) (hn : n ≤ 1000) (hz : ∀ x ∈ s, Sy.csz x ≤ 30000000) (hp : Rd w (fun i => i < w.heap.size) P pn pc ps) :
    Calls Tryd.prog 13 #[.slice A n c, .slice P pn pc] w fun e w' => ∃ A' n' c' vs, e = .returned (.slice A' n' c') ∧ Row w' (fun i => w.heap.size ≤ i) 6 A' n' c' vs ∧ Els lCm w' S (Sy.part ps s) vs ∧ Below w.heap.size w w' := by
  have hsd := Lib.hid hs
  have hSd := Lib.hid hS
  have hpd := Lib.hid hp
  have hzd := Lib.hid hz
  have hnl := Lib.hid hs.len
  clear hs hp hz hS
  go_enter Tryd.func13, Tryd.ntmps13
  go_wp2_with fail
  have o0 : Hid (OwnE lCm (w.alloc (.cells #[] 39)) S w.heap.size 39 (.slice (some ⟨w.heap.size, 0, none⟩) 0 0) 0 []) := ⟨[], ⟨by simp, .inr ⟨w.heap.size, 0, #[], rfl, Nat.le_refl _, heap_alloc_new w _, Nat.le_refl _, by simp [maxLen], by simp, by simp⟩⟩, rfl⟩
  go_loopw [6, 5] (fun t u wr => ∃ (k : Nat) (B : Option Addr) (m d : Nat), k ≤ n ∧ t = .int .i64 k ∧ u = .slice B m d ∧ m ≤ k ∧ OwnE lCm wr S w.heap.size 39 u m (Sy.part ps (s.take k)) ∧ Below w.heap.size w wr) (fun t u _ => n - (intOf t).toNat)
  case atStart => exact ⟨0, _, 0, 0, Nat.zero_le _, rfl, rfl, Nat.le_refl _, o0.out, (Below.refl _ w).alloc (Nat.le_refl _) _⟩
  case round =>
    obtain ⟨k, B, m, d, hk, rfl, rfl, hm, ho, hb⟩ := hrel
    have hbd := Lib.hid hb
    have hod := Lib.hid ho
    clear hb ho
    by_cases hlt : k < n
    · have hkl : k < s.length := by have := hnl.out; omega
      obtain ⟨x, hx⟩ : ∃ x, s[k]? = some x := ⟨_, List.getElem?_eq_getElem hkl⟩
      obtain ⟨b, o, A1, n1, c1, B1, m1, d1, rfl, hbl, hr1, hr2, hg⟩ := cm_at (hsd.out.fr (Fr.of_below (F := fun _ => False) hbd.out) (fun _ _ h => h)) hx
      have e0 : wr.cell? ⟨b, o + k * 6, none⟩ = some (.int .i64 x.client) := hg 0 _ rfl
      have e1 : wr.cell? ⟨b, o + k * 6 + 1, none⟩ = some (.int .i64 x.seq) := hg 1 _ rfl
      have e2 : wr.cell? ⟨b, o + k * 6 + 2, none⟩ = some (.int .i64 x.kind) := hg 2 _ rfl
      have e3 : wr.cell? ⟨b, o + k * 6 + 3, none⟩ = some (.slice A1 n1 c1) := hg 3 _ rfl
      have e4 : wr.cell? ⟨b, o + k * 6 + 4, none⟩ = some (.int .i64 x.replica) := hg 4 _ rfl
      have e5 : wr.cell? ⟨b, o + k * 6 + 5, none⟩ = some (.slice B1 m1 d1) := hg 5 _ rfl
      have hgd := Lib.hid (And.intro hg hbl)
      have hxd := Lib.hid hx
      have hr1d := Lib.hid hr1
      have hr2d := Lib.hid hr2
      have hzx : Hid (Sy.csz x ≤ 30000000) := hzd.out x (List.mem_of_getElem? hx)
      clear hg hr1 hr2 hx hkl hbl
      go_wp2_with fail
      clear e0 e1 e2 e3 e4 e5
      refine (digits_r x wr ((hr1d.out).mono (fun _ _ _ => trivial)) (hr2d.out.mono (fun _ _ _ => trivial)) hzx.out).mono ?_
      rintro e w1 ⟨D, l, dk, rfl, hrd, hb1⟩
      have hbw1 : Hid (Below w.heap.size w w1) := hbd.out.trans (hb1.mono hbd.out.size)
      have hbr1 : Hid (Ab wr w1) := hb1
      have hrdd := Lib.hid hrd
      clear hrd hb1
      go_wp2_with fail
      refine (begins_any w1 (hrdd.out.mono (fun _ _ _ => trivial)) ((hpd.out.fr (Fr.of_below (F := fun _ => False) hbw1.out) (fun _ _ h => h)).mono (fun _ _ _ => trivial))).mono ?_
      rintro e w2 ⟨rfl, hb2⟩
      have hbw2 : Hid (Below w.heap.size w w2) := hbw1.out.trans (hb2.mono hbw1.out.size)
      have hbr2 : Hid (Ab wr w2) := Ab.trans _ _ _ hbr1.out hb2
      have hsn := Sy.part_snoc ps (s.take k) x
      have htk : s.take (k + 1) = s.take k ++ [x] := by
        obtain ⟨hk2, hx2⟩ := List.getElem?_eq_some_iff.1 hxd.out
        rw [List.take_succ_eq_append_getElem hk2, hx2]
      rw [← htk] at hsn
      clear hb2 hrdd
      by_cases hpx : ps.isPrefixOf (Sy.digs (Sy.enc x)) = true
      · rw [if_pos hpx] at hsn
        rw [hpx]
        have hstep := Lib.hid hsn
        clear hpx hsn htk
        have hg2 := range_ab hgd.out.1 hgd.out.2 hbr2.out
        have e0 : w2.cell? ⟨b, o + k * 6, none⟩ = some (.int .i64 x.client) := hg2 0 _ rfl
        have e1 : w2.cell? ⟨b, o + k * 6 + 1, none⟩ = some (.int .i64 x.seq) := hg2 1 _ rfl
        have e2 : w2.cell? ⟨b, o + k * 6 + 2, none⟩ = some (.int .i64 x.kind) := hg2 2 _ rfl
        have e3 : w2.cell? ⟨b, o + k * 6 + 3, none⟩ = some (.slice A1 n1 c1) := hg2 3 _ rfl
        have e4 : w2.cell? ⟨b, o + k * 6 + 4, none⟩ = some (.int .i64 x.replica) := hg2 4 _ rfl
        have e5 : w2.cell? ⟨b, o + k * 6 + 5, none⟩ = some (.slice B1 m1 d1) := hg2 5 _ rfl
        obtain ⟨vs, ho1, ho2⟩ := (hod.out.fr (Fr.of_below (F := fun _ => False) hbr2.out) (fun _ _ h => h) (fun _ _ h => h))
        have ho2d := Lib.hid ho2
        have hs2 := hbw2.out.size
        have o4 : (w2.alloc (.cells (cma x A1 n1 c1 B1 m1 d1) 39)).ownsRow w.heap.size 39 6 (.slice B m d) m vs := own_alc ho1 _
        have ro4 : Row (w2.alloc (.cells (cma x A1 n1 c1 B1 m1 d1) 39)) (fun i => i = w2.heap.size) 6 (some ⟨w2.heap.size, 0, none⟩) 1 1 [.int .i64 x.client, .int .i64 x.seq, .int .i64 x.kind, .slice A1 n1 c1, .int .i64 x.replica, .slice B1 m1 d1] := Row.new w2 _ _ _ rfl rfl (by decide)
        have on4 : ∀ u ∈ [Value.int .i64 x.client, .int .i64 x.seq, .int .i64 x.kind, .slice A1 n1 c1, .int .i64 x.replica, .slice B1 m1 d1], u.oneCell' = true := by
          intro u hu
          simp only [List.mem_cons, List.not_mem_nil, or_false] at hu
          rcases hu with rfl | rfl | rfl | rfl | rfl | rfl <;> rfl
        have hs4 : w.heap.size ≤ (w2.alloc (.cells (cma x A1 n1 c1 B1 m1 d1) 39)).heap.size := by rw [show (w2.alloc (.cells (cma x A1 n1 c1 B1 m1 d1) 39)).heap.size = w2.heap.size + 1 from Array.size_push _]; omega
        clear hg2 ho1 ho2 hs2
        go_wp2_with (at_builtin; refine wpl_app rfl (.tmp 21) (.tmp 26) 22 rfl w.heap.size 39 _ 6 80 Tryd.underlying22 infoCm rfl (by decide) (by decide) _ rfl m vs o4 _ _ 1 1 rfl _ ro4 on4 (by omega) hs4 (m + 1) rfl ?h2)
        case h2 =>
          intro A5 c5 w5 o5 g5 b5
          have hb25 : Below w.heap.size w2 w5 := ((Below.refl w.heap.size w2).alloc hbw2.out.size _).trans (((Fr.refl (fun i => w.heap.size ≤ i) _).grown g5 (fun k e => .inl (own_lt o4 k e).1)).below (fun _ h => h) hs4)
          have hb5 : Below w.heap.size w w5 := hbw2.out.trans hb25
          have hbr5 : Hid (Below w.heap.size wr w5) := (Below.mono hbr2.out hbd.out.size).trans hb25
          have hb25d := Lib.hid hb25
          have hb5d := Lib.hid hb5
          have o5d := Lib.hid o5
          clear o4 ro4 on4 hs4 g5 b5 hb5 hb25 e0 e1 e2 e3 e4 e5
          have hE : Hid (Els lCm w5 S (Sy.part ps (s.take (k + 1))) (vs ++ [.int .i64 x.client, .int .i64 x.seq, .int .i64 x.kind, .slice A1 n1 c1, .int .i64 x.replica, .slice B1 m1 d1])) := by
            show Els _ _ _ _ _
            rw [hstep.out]
            exact (ho2d.out.fr (fr_low hb25d.out) (fun i h h' => by have := hSd.out i h; omega)).append (Els.single ⟨A1, n1, c1, B1, m1, d1, rfl, hr1d.out.fr (fr_low hbr5.out) (fun i h h' => by have := hSd.out i h; omega), hr2d.out.fr (fr_low hbr5.out) (fun i h h' => by have := hSd.out i h; omega)⟩)
          go_wp2_with fail
          go_roundw
          case rel => exact ⟨k + 1, A5, m + 1, c5, by omega, by go_num, rfl, by omega, ⟨_, o5d.out, hE.out⟩, hb5d.out⟩
          case measure => simp [intOf]; omega
      · rw [if_neg hpx, List.append_nil] at hsn
        have hpf : ps.isPrefixOf (Sy.digs (Sy.enc x)) = false := Bool.eq_false_iff.2 hpx
        rw [hpf]
        have hstep := Lib.hid hsn
        clear hpx hpf hsn htk
        go_wp2_with fail
        go_roundw
        case rel =>
          refine ⟨k + 1, B, m, d, by omega, by go_num, rfl, by omega, ?_, hbw2.out⟩
          rw [hstep.out]
          exact hod.out.fr (Fr.of_below (F := fun _ => False) hbr2.out) (fun _ _ h => h) (fun _ _ h => h)
        case measure => simp [intOf]; omega
    · have hkn : k = n := by omega
      have hknd := Lib.hid hkn
      clear hkn
      go_wp2_with fail
      go_returns
      obtain ⟨vs, h1, h2⟩ := hod.out
      refine ⟨B, m, d, vs, rfl, (own_row h1).mono (fun i _ hi => (own_lt h1 i hi).1), ?_, hbd.out⟩
      have e : s.take k = s := by rw [hknd.out, hnl.out]; exact List.take_length
      rw [e] at h2
      exact h2
theorem rpart_any (w : World) {S : Nat → Prop} {A P : Option Addr} {n c pn pc : Nat} {s : List Sy.Cm} {ps : List UInt8} (hS : ∀ i, S i → i < w.heap.size) (hs : RdE lCm w S A n c s) (hn : n ≤ 1000) (hz : ∀ x ∈ s, Sy.csz x ≤ 30000000) (hp : Rd w (fun i => i < w.heap.size) P pn pc ps) :
    Calls Tryd.prog 13 #[.slice A n c, .slice P pn pc] w fun e w' => ∃ A' n' c', e = .returned (.slice A' n' c') ∧ RdE lCm w' (fun i => S i ∨ w.heap.size ≤ i) A' n' c' (Sy.part ps s) ∧ Below w.heap.size w w' := by
  refine (rpart_els w hS hs hn hz hp).mono ?_
  rintro e w' ⟨A', n', c', vs, rfl, h1, h2, h3⟩
  exact ⟨A', n', c', rfl, ⟨vs, h1.mono (fun i _ h => .inr h), h2.mono (fun i _ h => .inl h)⟩, h3⟩
theorem rd_row {w : World} {S : Nat → Prop} {A : Option Addr} {n c : Nat} {bs : List UInt8} (h : Rd w S A n c bs) : Row w S 1 A n c (bs.map u8v) := by
  have hl := h.len
  refine ⟨by simp; omega, h.le, h.max, h.none, fun hn => ?_⟩
  obtain ⟨b, o, hA, hS, hb, hc⟩ := h.at_ hn
  refine ⟨b, o, hA, hS, hb, fun i hi => ?_⟩
  rw [hc i (by omega), u8v_get bs i (by omega)]
theorem u8_ones (bs : List UInt8) : ∀ u ∈ bs.map u8v, u.oneCell' = true := u8v_one bs
set_option maxRecDepth 100000 in
set_option maxHeartbeats 2000000 in
theorem rdigest_any (w : World) {A P : Option Addr} {n c pn pc : Nat} {l : List Sy.Cm} {ps : List UInt8} (hs : RdE lCm w (fun i => i < w.heap.size) A n c l) (hn : n ≤ 16) (hz : ∀ x ∈ l, Sy.csz x ≤ 30000000) (hp : Rd w (fun i => i < w.heap.size) P pn pc ps) (hpn : pn ≤ 10000000) :
    Calls Tryd.prog 16 #[.slice A n c, .slice P pn pc] w fun e w' => ∃ P' p' q' A' n' c', e = .returned (.agg #[.slice P' p' q', .slice A' n' c', .int .i64 ((Sy.part ps l).length : Int)]) ∧
      Rd w' (fun i => w.heap.size ≤ i) P' p' q' ps ∧ Rd w' (fun i => w.heap.size ≤ i) A' n' c' (Sha.sha (Sy.body (Sy.part ps l))) ∧ Below w.heap.size w w' := by
  have hsd := Lib.hid hs
  have hpd := Lib.hid hp
  have hzd := Lib.hid hz
  have hnl := Lib.hid hs.len
  have hnd := Lib.hid hn
  have hpnl := Lib.hid hp.len
  have hpnd := Lib.hid hpn
  clear hs hp hz hn hpn
  go_enter Tryd.func16, Tryd.ntmps16
  go_wp2_with fail
  obtain ⟨w2, hw2⟩ : ∃ w2, w.alloc (.cells #[.slice none 0 0, .slice none 0 0, .int .i64 0] 30) = w2 := ⟨_, rfl⟩
  have hb2 : Hid (Below w.heap.size w w2) := by show Below _ _ _; rw [← hw2]; exact (Below.refl _ w).alloc (Nat.le_refl _) _
  have hR : Hid (Blk w2 w.heap.size 30 #[.slice none 0 0, .slice none 0 0, .int .i64 0]) := by show Blk _ _ _ _; rw [← hw2]; exact Blk.new' rfl
  have hs2 : Hid (w2.heap.size = w.heap.size + 1) := by show _ = _; rw [← hw2]; exact Array.size_push _
  rw [hw2]
  clear hw2
  have hf2 := Fr.of_below (F := fun _ => False) hb2.out
  refine (rpart_any w2 (S := fun i => i < w.heap.size) (fun i h => by have := hs2.out; omega) (hsd.out.fr hf2 (fun _ _ h => h)) (by have := hnd.out; omega) hzd.out ((hpd.out.fr hf2 (fun _ _ h => h)).mono (fun i hi _ => hi))).mono ?_
  rintro e w3 ⟨A3, n3, c3, rfl, hl3, hb3⟩
  have hb23 : Hid (Below w2.heap.size w2 w3) := hb3
  have hb3d : Hid (Below w.heap.size w w3) := hb2.out.trans (hb3.mono hb2.out.size)
  have hnl3 := Lib.hid hl3.len
  have hn3 : n3 ≤ 16 := by have := hnl3.out; have := Sy.part_len ps l; have := hnl.out; have := hnd.out; omega
  have hl3d := Lib.hid hl3
  have hz3 : Hid (∀ x ∈ Sy.part ps l, Sy.csz x ≤ 30000000) := fun x hx => hzd.out x (Sy.part_sub hx)
  obtain ⟨q, hq0⟩ : ∃ q, Sy.part ps l = q := ⟨_, rfl⟩
  have hq0d := Lib.hid hq0
  rw [hq0] at hl3d hz3 hnl3
  have hbl : Hid (∀ k, (Sy.body (q.take k)).length ≤ 500000000) := fun k => by
    have h1 := Sy.body_take_le hz3.out k
    have h4 : q.length * (30000000 + 10) ≤ 16 * (30000000 + 10) := Nat.mul_le_mul_right _ (by have := hnl3.out; omega)
    omega
  clear hf2 hl3 hb3 hq0
  go_wp2_with fail
  have o0 : Hid ((w3.alloc (.cells #[] 5)).ownsRow w3.heap.size 5 1 (.slice (some ⟨w3.heap.size, 0, none⟩) 0 0) 0 ((Sy.body (q.take 0)).map u8v)) := by
    show World.ownsRow _ _ _ _ _ _ _
    exact own_alloc w3 (Nat.le_refl _) 5 [] #[] rfl rfl (by decide)
  go_loopw [7, 6] (fun t u wr => ∃ (k : Nat) (B : Option Addr) (j d : Nat), k ≤ n3 ∧ t = .int .i64 k ∧ u = .slice B j d ∧ wr.ownsRow w3.heap.size 5 1 u j ((Sy.body (q.take k)).map u8v) ∧ Below w3.heap.size w3 wr) (fun t u _ => n3 - (intOf t).toNat)
  case atStart => exact ⟨0, _, 0, 0, Nat.zero_le _, rfl, rfl, o0.out, (Below.refl _ _).alloc (Nat.le_refl _) _⟩
  case round =>
    obtain ⟨k, B, j, d, hk, rfl, rfl, ho, hb⟩ := hrel
    have hod := Lib.hid ho
    have hbr := Lib.hid hb
    have hjl : Hid (j = (Sy.body (q.take k)).length) := by have := own_len ho; show _ = _; simp at this; omega
    clear ho hb
    by_cases hlt : k < n3
    · have hkl : k < q.length := by have := hnl3.out; omega
      obtain ⟨x, hx⟩ : ∃ x, q[k]? = some x := ⟨_, List.getElem?_eq_getElem hkl⟩
      obtain ⟨b, o, A1, n1, c1, B1, m1, d1, rfl, hbl1, hr1, hr2, hg⟩ := cm_at (hl3d.out.fr (Fr.of_below (F := fun _ => False) hbr.out) (fun _ _ h => h)) hx
      have e0 : wr.cell? ⟨b, o + k * 6, none⟩ = some (.int .i64 x.client) := hg 0 _ rfl
      have e1 : wr.cell? ⟨b, o + k * 6 + 1, none⟩ = some (.int .i64 x.seq) := hg 1 _ rfl
      have e2 : wr.cell? ⟨b, o + k * 6 + 2, none⟩ = some (.int .i64 x.kind) := hg 2 _ rfl
      have e3 : wr.cell? ⟨b, o + k * 6 + 3, none⟩ = some (.slice A1 n1 c1) := hg 3 _ rfl
      have e4 : wr.cell? ⟨b, o + k * 6 + 4, none⟩ = some (.int .i64 x.replica) := hg 4 _ rfl
      have e5 : wr.cell? ⟨b, o + k * 6 + 5, none⟩ = some (.slice B1 m1 d1) := hg 5 _ rfl
      have hxd := Lib.hid hx
      have hr1d := Lib.hid hr1
      have hr2d := Lib.hid hr2
      have hzx : Hid (Sy.csz x ≤ 30000000) := hz3.out x (List.mem_of_getElem? hx)
      clear hg hr1 hr2 hx hkl hbl1
      go_wp2_with fail
      clear e0 e1 e2 e3 e4 e5
      refine (renc_any x wr (hr1d.out.mono (fun _ _ _ => trivial)) (hr2d.out.mono (fun _ _ _ => trivial)) hzx.out).mono ?_
      rintro e w5 ⟨D, l5, k5, rfl, hr5, hb5⟩
      have hb5d : Hid (Ab wr w5) := hb5
      have hr5d := Lib.hid hr5
      clear hr5 hb5
      go_wp2_with fail
      have hN : Rd w5 (fun _ => True) none 0 0 [] := ⟨rfl, Nat.le_refl _, by simp [maxLen], fun _ => rfl, fun h => by omega⟩
      refine (refbytes_any (Sy.enc x) w5 hN (hr5d.out.mono (fun _ _ _ => trivial)) (by have := Sy.length_enc x; have := hzx.out; simp; omega)).mono ?_
      rintro e w6 ⟨D6, l6, k6, hn6, rfl, ho6, hb6⟩
      rw [List.nil_append, show Wire.uint (BitVec.ofNat 64 (Sy.enc x).length) ++ Sy.enc x = Sy.bts (Sy.enc x) from rfl] at ho6 hn6
      have hb6d : Hid (Ab wr w6) := Ab.trans _ _ _ hb5d.out hb6
      have hr6 := rd_row (gave_rd ho6)
      have on6 := u8_ones (Sy.bts (Sy.enc x))
      have hl6 : Hid (l6 ≤ 30000010) := by have := Sy.length_bts (Sy.enc x); have := Sy.length_enc x; have := hzx.out; show _ ≤ _; omega
      have o6 := own_upd hod.out hb6d.out
      have o6d := Lib.hid o6
      have hs6 : w3.heap.size ≤ w6.heap.size := Nat.le_trans hbr.out.size hb6d.out.size
      have hj6 : (j + l6) * 1 ≤ 140737488355328 := by have := hl6.out; have := hbl.out k; have := hjl.out; omega
      have hb36 : Hid (Below w3.heap.size w3 w6) := hbr.out.trans (Below.mono hb6d.out hbr.out.size)
      clear ho6 hn6 hb6 hN
      go_wp2_with (at_builtin; refine wpl_app rfl (.tmp 18) (.tmp 24) 23 rfl w3.heap.size 5 _ 1 1 Tryd.underlying23 infoBy rfl (by decide) (by decide) _ rfl j _ o6 _ _ l6 k6 rfl _ hr6 on6 hj6 hs6 (j + l6) rfl ?h2)
      case h2 =>
        intro A7 c7 w7 o7 g7 b7
        have hb7 : Hid (Below w3.heap.size w3 w7) := app_below hb36.out g7 (fun k e => (own_lt o6d.out k e).1) hs6
        have ho7 : Hid (w7.ownsRow w3.heap.size 5 1 (.slice A7 (j + l6) c7) (j + l6) ((Sy.body (q.take (k + 1))).map u8v)) := by
          show World.ownsRow _ _ _ _ _ _ _
          rw [Sy.body_take hxd.out, List.map_append]
          exact o7
        clear o6 hr6 on6 hj6 hs6 o7 g7 b7
        go_wp2_with fail
        go_roundw
        case rel => exact ⟨k + 1, A7, j + l6, c7, by omega, by go_num, rfl, ho7.out, hb7.out⟩
        case measure => simp [intOf]; omega
    · have hkn := Lib.hid (show k = n3 by omega)
      have eq : q.take k = q := by rw [hkn.out, hnl3.out]; exact List.take_length
      have hob : Hid (wr.ownsRow w3.heap.size 5 1 (.slice B j d) j ((Sy.body q).map u8v)) := by have h := hod.out; rw [eq] at h; exact h
      have hbq : Hid ((Sy.body q).length ≤ 70368744177664) := by have h := hbl.out k; rw [eq] at h; exact Nat.le_trans h (by decide)
      have hbw : Hid (Below w.heap.size w wr) := hb3d.out.trans (hbr.out.mono hb3d.out.size)
      have hRr : Hid (Blk wr w.heap.size 30 #[.slice none 0 0, .slice none 0 0, .int .i64 0]) := (hR.out.fr (Fr.of_below (F := fun _ => False) hb23.out) (fun h => h)).fr (Fr.of_below (F := fun _ => False) hbr.out) (fun h => h)
      clear eq
      have o1 : (wr.alloc (.cells #[] 5)).ownsRow wr.heap.size 5 1 (.slice (some ⟨wr.heap.size, 0, none⟩) 0 0) 0 [] := own_alloc wr (Nat.le_refl _) 5 [] #[] rfl rfl (by decide)
      have o1d := Lib.hid o1
      have hb1 : Hid (Below wr.heap.size wr (wr.alloc (.cells #[] 5))) := (Below.refl _ _).alloc (Nat.le_refl _) _
      have hr1 := rd_row ((hpd.out.fr (Fr.of_below (F := fun _ => False) hbw.out) (fun _ _ h => h)).fr (Fr.of_below (F := fun _ => False) hb1.out) (fun _ _ h => h))
      have on1 := u8_ones ps
      have hs1 : wr.heap.size ≤ (wr.alloc (.cells #[] 5)).heap.size := hb1.out.size
      have hj1 : (0 + pn) * 1 ≤ 140737488355328 := by have := hpnd.out; omega
      go_wp2_with (at_builtin; refine wpl_app rfl (.tmp 26) (.tmp 27) 23 rfl wr.heap.size 5 _ 1 1 Tryd.underlying23 infoBy rfl (by decide) (by decide) _ rfl 0 _ o1 _ _ pn pc rfl _ hr1 on1 hj1 hs1 pn (Nat.zero_add _) ?h2)
      case h2 =>
        intro A7 c7 w7 o7 g7 b7
        have hb7 : Hid (Below wr.heap.size wr w7) := app_below hb1.out g7 (fun k e => (own_lt o1d.out k e).1) hs1
        have hp7 : Hid (Rd w7 (fun i => w.heap.size ≤ i ∧ i ≠ w.heap.size) A7 pn c7 ps) := (own_rd o7).mono (fun i _ hi => by have h1 := (own_lt o7 i hi).1; have h2 := hbw.out.size; have h3 := hRr.out.lt; omega)
        have hob7 := own_rd (own_upd hob.out hb7.out)
        have hbw7 : Hid (Below w.heap.size w w7) := hbw.out.trans (hb7.out.mono hbw.out.size)
        have hR7 : Hid (Blk w7 w.heap.size 30 #[.slice none 0 0, .slice none 0 0, .int .i64 0]) := hRr.out.fr (Fr.of_below (F := fun _ => False) hb7.out) (fun h => h)
        have hob7d := Lib.hid hob7
        clear o1 hr1 on1 hs1 hj1 o7 g7 b7 hob7
        go_wp2_with fail
        refine (refsum_any w7 (hob7d.out.mono (fun _ _ _ => trivial)) hbq.out).mono ?_
        rintro e w8 ⟨rfl, hb8⟩
        have hb8d : Hid (Ab w7 w8) := hb8
        have hbw8 : Hid (Below w.heap.size w w8) := hbw7.out.trans (hb8.mono hbw7.out.size)
        have hsl : (Sha.sha (Sy.body q)).length ≤ maxLen := by rw [Sha.length_sha]; simp only [maxLen]; decide
        clear hb8
        go_wp2_with (refine wpl_bytes_str rfl 9 23 5 (.tmp 30) rfl Tryd.underlying9 Tryd.underlying23 Tryd.underlying5 (Sha.sha (Sy.body q)) rfl hsl ?h3)
        case h3 =>
          intro k9 w9 hd9 hg9
          have hb9 : Hid (Ab w8 w9) := (Below.refl _ _).grown hg9 (Nat.le_refl _) (by intro k hk; cases hk)
          have hbw9 : Hid (Below w.heap.size w w9) := hbw8.out.trans (Below.mono hb9.out hbw8.out.size)
          have hd9d := Lib.hid hd9
          have hR9 := ((hR7.out.fr (Fr.of_below (F := fun _ => False) hb8d.out) (fun h => h)).fr (Fr.of_below (F := fun _ => False) hb9.out) (fun h => h))
          have hne : Hid (w8.heap.size ≠ w.heap.size ∧ w.heap.size ≤ w8.heap.size) := by have h1 := hbw8.out.size; have h2 := (hR7.out.fr (Fr.of_below (F := fun _ => False) hb8d.out) (fun h => h)).lt; show _ ∧ _; omega
          clear hd9 hg9 hsl
          go_wp2_with (refine wpl_store_new _ rfl 30 (.tmp 4) (.tmp 34) rfl w.heap.size rfl #[.slice A7 pn c7, .slice (some ⟨w8.heap.size, 0, none⟩) (Sha.sha (Sy.body q)).length k9, .int .i64 (n3 : Int)] rfl 30 _ hR9 (by kernel_rfl) rfl (one3 _ _ _) ?h4)
          case h4 =>
            intro v1 hk1 hg1
            have hF : Hid (Fr (fun i => i = w.heap.size) w9 v1) := (Fr.refl _ _).grown hg1 (fun i e => .inl (Option.some.inj e).symm)
            have hk1d := Lib.hid hk1
            clear hk1 hg1 hR9
            go_wp2_with fail
            have hln : ((n3 : Nat) : Int) = ((Sy.part ps l).length : Int) := by rw [hq0d.out, ← hnl3.out]
            refine bodyPost_ret (results_cell_row (P := Tryd.prog) Tryd.results16 _ _ w.heap.size 30 _ (0, 0) _ rfl hk1d.out Tryd.underlying30 rfl (by kernel_rfl)) rfl ⟨A7, pn, c7, some ⟨w8.heap.size, 0, none⟩, (Sha.sha (Sy.body q)).length, k9, by rw [← hln], ?_, ?_, ?_⟩
            · exact (((hp7.out.ab hb8d.out).ab hb9.out).fr hF.out (fun i h => h.2)).mono (fun i _ h => h.1)
            · rw [hq0d.out]
              exact (hd9d.out.fr hF.out hne.out.1).rd.mono (fun i _ h => by rw [h]; exact hne.out.2)
            · exact hbw9.out.trans (hF.out.below (fun i h => by rw [h]; exact Nat.le_refl _) hbw9.out.size)
end Go.Proofs.YtajohibeoicepaaDoor

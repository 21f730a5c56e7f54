/-
  The reference's Begins and Digits, walked.
-/
import Derived.Test.YtajohibeoicepaaDoorSySame
namespace Sy
theorem pre_take {p d : List UInt8} {k : Nat} {y z : UInt8} (hd : d[k]? = some z) (hp : p[k]? = some y) (h : d.take k = p.take k) (he : z = y) : d.take (k + 1) = p.take (k + 1) := by
  obtain ⟨h1, rfl⟩ := List.getElem?_eq_some_iff.1 hd
  obtain ⟨h2, rfl⟩ := List.getElem?_eq_some_iff.1 hp
  rw [List.take_succ_eq_append_getElem h1, List.take_succ_eq_append_getElem h2, h, he]
theorem pre_not {p d : List UInt8} {k : Nat} {y z : UInt8} (hd : d[k]? = some z) (hp : p[k]? = some y) (he : ¬ z = y) : p.isPrefixOf d = false := by
  rw [Bool.eq_false_iff]
  intro h
  rw [List.isPrefixOf_iff_prefix] at h
  obtain ⟨t, rfl⟩ := h
  have hk := (List.getElem?_eq_some_iff.1 hp).1
  rw [List.getElem?_append_left hk, hp] at hd
  exact he (Option.some.inj hd).symm
end Sy
namespace Go.Proofs.YtajohibeoicepaaDoor
open Go.RowKit Go.Pl
theorem infoBy : (Tryd.prog.info? 5).map (fun i => (i.zero, i.size, i.bytes)) = some (some (.int .u8 0), 1, 1) := by kernel_rfl
theorem rd_cell {w : World} {S : Nat → Prop} {A : Option Addr} {n c k : Nat} {bs : List UInt8} {v : UInt8} (h : Rd w S A n c bs) (hv : bs[k]? = some v) : ∃ b o, A = some ⟨b, o, none⟩ ∧ b < w.heap.size ∧ w.cell? ⟨b, o + k, none⟩ = some (.int .u8 (v.toNat : Int)) := by
  obtain ⟨hk, rfl⟩ := List.getElem?_eq_some_iff.1 hv
  have hl := h.len
  obtain ⟨b, o, hA, -, hb, hc⟩ := h.at_ (by omega)
  refine ⟨b, o, hA, hb, (hc k (by omega)).trans ?_⟩
  simp [hk]
set_option maxRecDepth 100000 in
theorem begins_any (w : World) {A P : Option Addr} {n c pn pc : Nat} {d p : List UInt8} (hd : Rd w (fun _ => True) A n c d) (hp : Rd w (fun _ => True) P pn pc p) :
    Calls Tryd.prog 28 #[.slice A n c, .slice P pn pc] w fun e w' => e = .returned (.bool (p.isPrefixOf d)) ∧ Below w.heap.size w w' := by
  have hdd := Lib.hid hd
  have hpd := Lib.hid hp
  have hld := Lib.hid hd.len
  have hlp := Lib.hid hp.len
  have hpm : pn ≤ 9223372036854775807 := Nat.le_trans hp.le hp.max
  clear hd hp
  by_cases hlt0 : n < pn
  · have hI : (n : Int) < (pn : Int) := by omega
    go_enter Tryd.func28, Tryd.ntmps28
    go_wp2_with fail
    go_returns
    have : p.isPrefixOf d = false := by
      rw [Bool.eq_false_iff]
      intro h
      rw [List.isPrefixOf_iff_prefix] at h
      have := h.length_le
      have := hld.out
      have := hlp.out
      omega
    exact ⟨by rw [this]; rfl, Below.refl _ _⟩
  · have hI : ¬ (n : Int) < (pn : Int) := by omega
    go_enter Tryd.func28, Tryd.ntmps28
    go_wp2_with fail
    go_loopw [5] (fun t wr => ∃ k : Nat, k ≤ pn ∧ t = .int .i64 k ∧ d.take k = p.take k ∧ Below w.heap.size w wr) (fun t _ => pn - (intOf t).toNat)
    case atStart => exact ⟨0, Nat.zero_le _, rfl, by simp, Below.refl _ _⟩
    case round =>
      obtain ⟨k, hk, rfl, hm, hb⟩ := hrel
      have hmd := Lib.hid hm
      have hbr := Lib.hid hb
      clear hm hb
      by_cases hlt : k < pn
      · have hkn : k < n := by omega
        have hkd : k < d.length := by have := hld.out; omega
        have hkp : k < p.length := by have := hlp.out; omega
        obtain ⟨z, hz⟩ : ∃ z, d[k]? = some z := ⟨_, List.getElem?_eq_getElem hkd⟩
        obtain ⟨y, hy⟩ : ∃ y, p[k]? = some y := ⟨_, List.getElem?_eq_getElem hkp⟩
        have hfr := Fr.of_below (F := fun _ => False) hbr.out
        obtain ⟨b1, o1, rfl, hbl1, hc1⟩ := rd_cell (hdd.out.fr hfr (fun _ _ h => h)) hz
        obtain ⟨b2, o2, rfl, hbl2, hc2⟩ := rd_cell (hpd.out.fr hfr (fun _ _ h => h)) hy
        have hzd := Lib.hid hz
        have hyd := Lib.hid hy
        have hc1d := Lib.hid (And.intro hbl1 hc1)
        have hc2d := Lib.hid (And.intro hbl2 hc2)
        clear hz hy hc1 hc2 hbl1 hbl2 hfr hkd hkp
        go_wp2_with fail
        refine wp_region_late Ab Ab.refl Ab.trans [] (.last [0, 1, 4, 5] [2, 3, 6, 7, 8]) (by kernel_rfl) (by kernel_rfl) (fun _ _ _ _ _ h => h) ?_
        simp only [wpSchV, ordPick, Option.toList_some, List.cons_append, List.nil_append, List.getElem?_cons_succ, List.getElem?_cons_zero]
        have hbd2 : Hid (Ab wr wr.drew) := ab_drew wr
        have hbw2 : Hid (Below w.heap.size w wr.drew) := hbr.out.trans (hbd2.out.mono hbr.out.size)
        obtain ⟨w7, hw7⟩ : ∃ w7, wr.drew = w7 := ⟨_, rfl⟩
        rw [hw7] at hbd2 hbw2 ⊢
        clear hw7
        have g1 : ∀ w', Ab w7 w' → w'.cell? ⟨b1, o1 + k, none⟩ = some (.int .u8 (z.toNat : Int)) := fun w' h => (Below.cell (Ab.trans _ _ _ hbd2.out h) (p := ⟨b1, _, none⟩) hc1d.out.1).trans hc1d.out.2
        have g2 : ∀ w', Ab w7 w' → w'.cell? ⟨b2, o2 + k, none⟩ = some (.int .u8 (y.toNat : Int)) := fun w' h => (Below.cell (Ab.trans _ _ _ hbd2.out h) (p := ⟨b2, _, none⟩) hc2d.out.1).trans hc2d.out.2
        iterate 4 (go_big_quiet_step (exact fun _ => rfl))
        refine wpQuiet_nil ?_
        iterate 1 (go_big_quiet_step (exact fun _ => rfl))
        refine wpq_load_one rfl 5 (.tmp 19) rfl ⟨b1, o1 + k, none⟩ rfl _ g1 _ Tryd.underlying5 rfl ?_
        simp only [Act.put, List.setIfInBounds_toArray, List.set_cons_succ, List.set_cons_zero]
        iterate 1 (go_big_quiet_step (exact fun _ => rfl))
        refine wpq_load_one rfl 5 (.tmp 23) rfl ⟨b2, o2 + k, none⟩ rfl _ g2 _ Tryd.underlying5 rfl ?_
        simp only [Act.put, List.setIfInBounds_toArray, List.set_cons_succ, List.set_cons_zero]
        clear g1 g2
        by_cases hzy : z = y
        · subst hzy
          iterate 1 (go_big_quiet_step (exact fun _ => rfl))
          refine wpQuiet_nil ?_
          go_wp2_with fail
          go_roundw
          case rel => exact ⟨k + 1, by omega, by go_num, Sy.pre_take hzd.out hyd.out hmd.out rfl, hbw2.out⟩
          case measure => simp [intOf]; omega
        · have hne : ((z.toNat : Int) == (y.toNat : Int)) = false := by
            rw [beq_eq_false_iff_ne]
            intro h
            exact hzy (UInt8.toNat_inj.1 (by omega))
          have hneI : ((z.toNat : Int) != (y.toNat : Int)) = true := by rw [bne, hne]; rfl
          iterate 1 (go_big_quiet_step (exact fun _ => rfl))
          refine wpQuiet_nil ?_
          go_wp2_with fail
          go_returns
          exact ⟨by rw [Sy.pre_not hzd.out hyd.out hzy]; rfl, hbw2.out⟩
      · have hkn := Lib.hid (show k = pn by omega)
        go_wp2_with fail
        go_returns
        have e2 : p.take k = p := by rw [hkn.out, hlp.out]; exact List.take_length
        have h := hmd.out
        rw [e2] at h
        have : p.isPrefixOf d = true := by rw [List.isPrefixOf_iff_prefix, ← h]; exact List.take_prefix _ _
        exact ⟨by rw [this]; rfl, hbr.out⟩
set_option maxRecDepth 100000 in
theorem digits_r (x : Sy.Cm) (w : World) {A C : Option Addr} {n c m d : Nat} (hx : RdE lWt w (fun _ => True) A n c x.writes) (ht : Rd w (fun _ => True) C m d x.tag) (hz : Sy.csz x ≤ 30000000) :
    Calls Tryd.prog 29 #[.agg (cmb x A n c C m d)] w fun e w' => ∃ D l k, e = .returned (.slice D l k) ∧ Rd w' (fun i => w.heap.size ≤ i) D l k (Sy.digs (Sy.enc x)) ∧ Below w.heap.size w w' := by
  have hxd := Lib.hid (And.intro hx ht)
  have hzd := Lib.hid hz
  clear hx ht hz
  go_enter Tryd.func29, Tryd.ntmps29
  go_wp2_with fail
  obtain ⟨w1, hw1⟩ : ∃ w1, w.alloc (.cells (cmb x A n c C m d) 39) = w1 := ⟨_, rfl⟩
  have hb1 : Hid (Below w.heap.size w w1) := by show Below _ _ _; rw [← hw1]; exact (Below.refl _ w).alloc (Nat.le_refl _) _
  rw [hw1]
  clear hw1
  have hf1 := Fr.of_below (F := fun _ => False) hb1.out
  refine (renc_any x w1 (hxd.out.1.fr hf1 (fun _ _ h => h)) (hxd.out.2.fr hf1 (fun _ _ h => h)) hzd.out).mono ?_
  rintro e w2 ⟨E, en, ek, rfl, hr2, hb2⟩
  have hb02 : Hid (Below w.heap.size w w2) := hb1.out.trans (hb2.mono hb1.out.size)
  obtain ⟨es, hE⟩ : ∃ es, Sy.enc x = es := ⟨_, rfl⟩
  have hEd := Lib.hid hE
  have hel : es.length ≤ 30000000 := by have h1 := Sy.length_enc x; have h2 := hzd.out; rw [hE] at h1; omega
  rw [hE] at hr2
  have hr2d := Lib.hid hr2
  have hen := hr2.len
  subst hen
  clear hr2 hb2 hf1 hE
  go_wp2_with fail
  have o0 : Hid ((w2.alloc (.cells #[] 5)).ownsRow w.heap.size 5 1 (.slice (some ⟨w2.heap.size, 0, none⟩) 0 0) 0 ([].map u8v)) := own_alloc w2 hb02.out.size 5 [] #[] rfl rfl (by decide)
  have hb03 : Hid (Below w.heap.size w (w2.alloc (.cells #[] 5))) := hb02.out.alloc hb02.out.size _
  have hr3 : Hid (Rd (w2.alloc (.cells #[] 5)) (fun i => i < w2.heap.size) E es.length ek es) := (hr2d.out.mono (T := fun i => i < w2.heap.size) (fun i hi _ => hi)).fr ((Fr.refl (fun _ => False) w2).alloc _) (fun _ _ h => h)
  go_loopw [5, 4] (fun t u wr => ∃ (k : Nat) (D : Option Addr) (d : Nat), k ≤ es.length ∧ t = .int .i64 k ∧ u = .slice D (2 * k) d ∧ wr.ownsRow w.heap.size 5 1 u (2 * k) (((Sy.digs es).take (2 * k)).map u8v) ∧ Rd wr (fun i => i < wr.heap.size ∧ u.ownBlock ≠ some i) E es.length ek es ∧ Below w.heap.size w wr) (fun t u _ => es.length - (intOf t).toNat)
  case atStart => exact ⟨0, some ⟨w2.heap.size, 0, none⟩, 0, Nat.zero_le _, rfl, rfl, by simpa using o0.out, hr3.out.mono (fun i hi h => ⟨hi, fun e => by have := (Option.some.inj e : w2.heap.size = i); omega⟩), hb03.out⟩
  case round =>
    obtain ⟨k, D, d, hk, rfl, rfl, ho, hr, hb⟩ := hrel
    have hod := Lib.hid ho
    have hrd := Lib.hid hr
    have hbd := Lib.hid hb
    clear ho hr hb
    by_cases hlt : k < es.length
    · obtain ⟨v, hv⟩ : ∃ v, es[k]? = some v := ⟨_, List.getElem?_eq_getElem hlt⟩
      obtain ⟨b, o, rfl, hbl, hc⟩ := rd_cell hrd.out hv
      have hvd : Hid (es.getD k 0 = v) := by show _ = _; rw [List.getD_eq_getElem?_getD, hv]; rfl
      have hcd := Lib.hid (And.intro hbl hc)
      have hltd := Lib.hid hlt
      clear hv hc hbl
      go_wp2_with fail
      refine wp_region_late Ab Ab.refl Ab.trans [12] (.one [0, 1, 2, 6, 7] [3, 4, 5, 8, 9, 10] 11 (.one [] [] 12 (.last [13] []))) (by kernel_rfl) (by kernel_rfl) (fun _ _ _ _ _ h => h) ?_
      simp only [wpSchV, ordPick, Option.toList_some, List.cons_append, List.nil_append, List.getElem?_cons_succ, List.getElem?_cons_zero]
      have hbd2 : Hid (Ab wr wr.drew) := ab_drew wr
      have hbw2 : Hid (Below w.heap.size w wr.drew) := hbd.out.trans (hbd2.out.mono hbd.out.size)
      obtain ⟨w7, hw7⟩ : ∃ w7, wr.drew = w7 := ⟨_, rfl⟩
      rw [hw7] at hbd2 hbw2 ⊢
      clear hw7
      have g1 : ∀ w', Ab w7 w' → w'.cell? ⟨b, o + k, none⟩ = some (.int .u8 (v.toNat : Int)) := fun w' h => (Below.cell (Ab.trans _ _ _ hbd2.out h) (p := ⟨b, _, none⟩) hcd.out.1).trans hcd.out.2
      iterate 5 (go_big_quiet_step (exact fun _ => rfl))
      refine wpQuiet_nil ?_
      iterate 1 (go_big_quiet_step (exact fun _ => rfl))
      refine wpq_load_one rfl 5 (.tmp 18) rfl ⟨b, o + k, none⟩ rfl _ g1 _ Tryd.underlying5 rfl ?_
      simp only [Act.put, List.setIfInBounds_toArray, List.set_cons_succ, List.set_cons_zero]
      iterate 2 (go_big_quiet_step (exact fun _ => rfl))
      refine wpq_load_one rfl 5 (.tmp 23) rfl ⟨b, o + k, none⟩ rfl _ g1 _ Tryd.underlying5 rfl ?_
      simp only [Act.put, List.setIfInBounds_toArray, List.set_cons_succ, List.set_cons_zero]
      clear g1
      iterate 1 (go_big_quiet_step (exact fun _ => rfl))
      refine wpQuiet_nil ?_
      go_wp2_with fail
      obtain ⟨y1, hy1⟩ : ∃ y, UInt8.ofNat (v.toNat / 16) = y := ⟨_, rfl⟩
      obtain ⟨y2, hy2⟩ : ∃ y, UInt8.ofNat (v.toNat % 16) = y := ⟨_, rfl⟩
      have q1 : (v.toNat : Int) / 16 % 256 = (y1.toNat : Int) := by have := v.toNat_lt; rw [← hy1, UInt8.toNat_ofNat']; omega
      have q2 : (v.toNat : Int) % 16 = (y2.toNat : Int) := by have := v.toNat_lt; rw [← hy2, UInt8.toNat_ofNat']; omega
      have hyd : Hid ((Sy.digs es).take (2 * (k + 1)) = (Sy.digs es).take (2 * k) ++ [y1, y2]) := by
        show _ = _
        rw [show 2 * (k + 1) = 2 * k + 2 by omega, Sy.digs_get hltd.out, hvd.out, hy1, hy2, List.append_assoc]; rfl
      rw [q1, q2]
      refine And.intro (.inr ((Below.refl _ _).alloc (Nat.le_refl _) _)) ?_
      simp only
      refine wpQuiet_nil (wpQuiet_nil ?_)
      have hl1 : ((Sy.digs es).take (2 * k)).length = 2 * k := by rw [List.length_take, Sy.length_digs]; have := hltd.out; omega
      have o2 := own_alc (own_upd hod.out hbd2.out) (.cells #[.int .u8 (y1.toNat : Int), .int .u8 (y2.toNat : Int)] 5)
      have ro2 : Row (w7.alloc (.cells #[.int .u8 (y1.toNat : Int), .int .u8 (y2.toNat : Int)] 5)) (fun i => i = w7.heap.size) 1 (some ⟨w7.heap.size, 0, none⟩) 2 2 [.int .u8 (y1.toNat : Int), .int .u8 (y2.toNat : Int)] := Row.new w7 _ _ _ rfl rfl (by decide)
      have on2 : ∀ u ∈ [Value.int .u8 (y1.toNat : Int), .int .u8 (y2.toNat : Int)], u.oneCell' = true := by intro u hu; simp at hu; rcases hu with rfl | rfl <;> rfl
      have hs2 : w.heap.size ≤ (w7.alloc (.cells #[.int .u8 (y1.toNat : Int), .int .u8 (y2.toNat : Int)] 5)).heap.size := Nat.le_trans hbw2.out.size ((Below.refl w.heap.size w7).alloc hbw2.out.size _).size
      have hb2 : Hid (Below w.heap.size w (w7.alloc (.cells #[.int .u8 (y1.toNat : Int), .int .u8 (y2.toNat : Int)] 5))) := hbw2.out.alloc hbw2.out.size _
      have hr2 : Hid (Rd (w7.alloc (.cells #[.int .u8 (y1.toNat : Int), .int .u8 (y2.toNat : Int)] 5)) (fun i => i < wr.heap.size ∧ (Value.slice D (2 * k) d).ownBlock ≠ some i) (some ⟨b, o, none⟩) es.length ek es) := (hrd.out.ab hbd2.out).fr ((Fr.refl (fun _ => False) w7).alloc _) (fun _ _ h => h)
      have o2d := Lib.hid o2
      have hjj : (2 * k + 2) * 1 ≤ 140737488355328 := by omega
      clear hy1 hy2 q1 q2 hl1
      go_wp2_with (at_builtin; refine wpl_app rfl (.tmp 15) (.tmp 26) 23 rfl w.heap.size 5 _ 1 1 Tryd.underlying23 infoBy rfl (by decide) (by decide) _ rfl (2 * k) _ o2 _ _ 2 2 rfl _ ro2 on2 hjj hs2 (2 * k + 2) rfl ?h2)
      case h2 =>
        intro A5 c5 w5 o5 g5 b5
        have hb5 : Hid (Below w.heap.size w w5) := app_below hb2.out g5 (fun k e => (own_lt o2d.out k e).1) hs2
        have hr5 : Hid (Rd w5 (fun i => i < w5.heap.size ∧ (Value.slice A5 (2 * k + 2) c5).ownBlock ≠ some i) (some ⟨b, o, none⟩) es.length ek es) := by
          have hf : Fr (fun i => (Value.slice D (2 * k) d).ownBlock = some i) _ w5 := (Fr.refl _ _).grown g5 (fun k e => .inl e)
          have hwr := hbd2.out.size
          refine (hr2.out.fr hf (fun i h => h.2)).mono (fun i hi h => ⟨hi, fun e => ?_⟩)
          rcases b5 with b5 | b5
          · rw [b5] at e; exact h.2 e
          · rw [b5] at e
            have := Option.some.inj e
            omega
        have ho5 : Hid (w5.ownsRow w.heap.size 5 1 (.slice A5 (2 * k + 2) c5) (2 * k + 2) (((Sy.digs es).take (2 * (k + 1))).map u8v)) := by
          show World.ownsRow _ _ _ _ _ _ _
          rw [hyd.out, List.map_append, List.map_take]
          exact o5
        clear o2 ro2 on2 hs2 o5 g5 b5 hjj
        go_wp2_with fail
        refine And.intro (.inl rfl) ?_
        simp only
        iterate 1 (go_big_quiet_step (exact fun _ => rfl))
        refine wpQuiet_nil (wpQuiet_nil ?_)
        go_wp2_with fail
        go_roundw
        case rel => exact ⟨k + 1, A5, c5, by omega, by go_num, rfl, ho5.out, hr5.out, hb5.out⟩
        case measure => simp [intOf]; omega
    · have hkn := Lib.hid (show k = es.length by omega)
      go_wp2_with fail
      go_returns
      have e : (Sy.digs es).take (2 * k) = Sy.digs es := by rw [hkn.out]; exact List.take_of_length_le (by rw [Sy.length_digs]; omega)
      have h := hod.out
      rw [e] at h
      exact ⟨D, 2 * k, d, rfl, hEd.out ▸ (own_rd h).mono (fun i _ hi => (own_lt h i hi).1), hbd.out⟩
end Go.Proofs.YtajohibeoicepaaDoor

/-
  The reference receives a message of kind 3.
-/
import Derived.Test.YtplijfgjdlghbaaBRefV
import Derived.Test.YtplijfgjdlghbaaBRec
import Derived.Test.YtplijfgjdlghbaaOrdV
import Derived.Deep.QuietTactic
import Derived.Deep.CutBlock
namespace Go.Proofs.Ytplijfgjdlghbaa
open Go.RowKit Go.Pl
set_option maxRecDepth 100000 in
set_option maxHeartbeats 4000000 in
theorem rrecv3 {w : World} {L : Nat → Lab} {G kk : Nat} {p : Bra.Proc} (hp : RefAt w L G p kk) (hkk : kk + 1 ≤ 1000000) {A : Option Addr} {n c : Nat} {bs : List UInt8} (hr : Rd w (fun i => L i = .no) A n c bs) (hf : Fits bs) (src dt o k : Int) (hv : Bra.valid p.n p.self ⟨3, src, dt, o, k, bs⟩ = true) :
    Calls Try.prog 16 #[.pointer (some ⟨G, 0, none⟩), .agg #[.int .i64 3, .int .i64 src, .int .i64 dt, .int .i64 o, .int .i64 k, .slice A n c]] w fun e w' => RefGot w L G p kk ⟨3, src, dt, o, k, bs⟩ e w' := by
  obtain ⟨CA, cn, cc, cv, DA, dn, dc, dv, hin⟩ := hp
  have gc0 : w.cell? ⟨G, 0, none⟩ = some (.int .i64 p.n) := (hin.blk.cell 0).trans rfl
  have gc1 : w.cell? ⟨G, 1, none⟩ = some (.int .i64 p.self) := (hin.blk.cell 1).trans rfl
  have hI := Lib.hid hin
  have hR := Lib.hid hr
  have hF := Lib.hid hf
  have hV := Lib.hid hv
  have hK := Lib.hid hkk
  clear hin hr hf hv hkk
  go_enter Try.func16, Try.ntmps16
  go_upto_region 1 with fail
  obtain ⟨w1, hw1⟩ : ∃ w1, w.alloc (.cells #[.int .i64 3, .int .i64 src, .int .i64 dt, .int .i64 o, .int .i64 k, .slice A n c] 35) = w1 := ⟨_, rfl⟩
  have hXb : Blk w1 w.heap.size 35 #[.int .i64 3, .int .i64 src, .int .i64 dt, .int .i64 o, .int .i64 k, .slice A n c] := by rw [← hw1]; exact Blk.new' rfl
  have hb1 : Below w.heap.size w w1 := by rw [← hw1]; exact (Below.refl _ _).alloc (Nat.le_refl _) _
  rw [hw1]
  have g10 : w1.cell? ⟨G, 0, none⟩ = some (.int .i64 p.n) := (hb1.cell (p := ⟨G, 0, none⟩) hI.out.blk.lt).trans gc0
  have g11 : w1.cell? ⟨G, 1, none⟩ = some (.int .i64 p.self) := (hb1.cell (p := ⟨G, 1, none⟩) hI.out.blk.lt).trans gc1
  have hG1 : G < w1.heap.size := Nat.lt_of_lt_of_le hI.out.blk.lt hb1.size
  clear hw1 gc0 gc1
  go_wp2_with ((with_reducible refine wpl_load_part rfl 35 (.tmp 3) rfl w.heap.size 0 ?_ 35 _ hXb #[.int .i64 3, .int .i64 src, .int .i64 dt, .int .i64 o, .int .i64 k, .slice A n c] rfl _ Try.underlying35 rfl (by kernel_rfl) ?_); rfl)
  refine (rvalid_any g10 g11 hG1 ⟨3, src, dt, o, k, bs⟩).mono ?_
  rw [hV.out]
  rintro e w2 ⟨rfl, hb2⟩
  have hb2' := hb1.trans (hb2.mono hb1.size)
  have hX2 : Hid (Blk w2 w.heap.size 35 #[.int .i64 3, .int .i64 src, .int .i64 dt, .int .i64 o, .int .i64 k, .slice A n c]) := hXb.below hb2 hXb.lt
  have hI2 : Hid (RefIn w2 L G p kk CA cn cc cv DA dn dc dv) := hI.out.up hb2'
  have hB2 := Lib.hid hb2'
  have hcn := Lib.hid hI2.out.cnLen
  have hcnk : cn ≤ 1000000 := by have h1 := hI2.out.cs; have h2 := hI2.out.kk; rw [hcn.out]; omega
  clear hXb hb1 hb2 hb2' g10 g11 hG1
  go_upto_block 0 with fail
  go_cut [5] from 15 to 49 (fun s5 wx => s5 = .int .i64 (Bra.at_ p.casts o k) ∧ Fr (fun _ => False) w2 wx)
  case first =>
    have x3 : w2.cell? ⟨w.heap.size, 3, none⟩ = some (.int .i64 o) := (hX2.out.cell 3).trans rfl
    have x4 : w2.cell? ⟨w.heap.size, 4, none⟩ = some (.int .i64 k) := (hX2.out.cell 4).trans rfl
    go_wp2_with fail
    go_loopw [5] (fun t5 wr => ∃ i : Nat, i ≤ cn ∧ t5 = .int .i64 i ∧ (∀ j c, j < i → p.casts[j]? = some c → c.is o k = false) ∧ Fr (fun _ => False) w2 wr) (fun t5 _ => cn - (intOf t5).toNat)
    case atStart => exact ⟨0, Nat.zero_le _, rfl, fun j c hj _ => by omega, Fr.refl _ _⟩
    case round =>
      obtain ⟨i, hi, rfl, hno, hfr⟩ := hrel
      have hIr := hI2.out.same hfr (fun _ h => h.elim)
      have gr3 : wr.cell? ⟨G, 3, none⟩ = some (.slice CA cn cc) := (hIr.blk.cell 3).trans rfl
      have xr3 : wr.cell? ⟨w.heap.size, 3, none⟩ = some (.int .i64 o) := (hfr.cell (p := ⟨w.heap.size, 3, none⟩) hX2.out.lt (fun h => h)).trans x3
      have xr4 : wr.cell? ⟨w.heap.size, 4, none⟩ = some (.int .i64 k) := (hfr.cell (p := ⟨w.heap.size, 4, none⟩) hX2.out.lt (fun h => h)).trans x4
      have hnod := Lib.hid hno
      have hfrd := Lib.hid hfr
      clear x3 x4 hno hfr
      by_cases hlt : i < cn
      · have hltI : (i : Int) < (cn : Int) := by omega
        have hil : i < p.casts.length := by rw [← hcn.out]; exact hlt
        obtain ⟨ct, hct⟩ : ∃ ct, p.casts[i]? = some ct := ⟨_, List.getElem?_eq_getElem hil⟩
        obtain ⟨e, r, -, -, hcell⟩ := hIr.rcs.get hct
        obtain ⟨b, q, hCA, -, -, hat⟩ := (own_row hIr.crow).at_ (by omega)
        have c0 : wr.cell? ⟨b, q + i * 7, none⟩ = some (.int .i64 ct.origin) := (hat (i * 7) (by omega)).trans (hcell 0 (by omega))
        have c1 : wr.cell? ⟨b, q + i * 7 + 1, none⟩ = some (.int .i64 ct.number) := by rw [Nat.add_assoc]; exact (hat (i * 7 + 1) (by omega)).trans (hcell 1 (by omega))
        rw [hCA] at gr3
        have hctd := Lib.hid hct
        clear hIr hCA hat hcell hct hil
        by_cases e1 : ct.origin = o
        · have b1 : (ct.origin != o) = false := by simpa using e1
          by_cases e2 : ct.number = k
          · have b2 : (ct.number != k) = false := by simpa using e2
            have he : Hid (ct.is o k = true) := Bra.is_iff.2 ⟨e1, e2⟩
            clear e1 e2
            go_wp2_with fail
            go_quiet (fail)
            go_wp2_with fail
            go_meet
            case rel => exact ⟨by rw [at_found hnod.out hctd.out he.out], hfrd.out.drewN _⟩
          · have b2 : (ct.number != k) = true := by simpa using e2
            have he : Hid (ct.is o k = false) := by show _ = _; simp [Bra.Cast.is, e2]
            clear e1 e2
            go_wp2_with fail
            go_quiet (fail)
            go_wp2_with fail
            go_roundw
            case rel => exact ⟨i + 1, by omega, by go_num, fun j c hj hc => by
              by_cases hji : j < i
              · exact hnod.out j c hji hc
              · obtain rfl : j = i := by omega
                rw [hctd.out] at hc; cases hc; exact he.out, hfrd.out.drewN _⟩
            case measure => simp [intOf]; omega
        · have b1 : (ct.origin != o) = true := by simpa using e1
          have he : Hid (ct.is o k = false) := by show _ = _; simp [Bra.Cast.is, e1]
          clear e1
          go_wp2_with fail
          go_quiet (fail)
          go_wp2_with fail
          go_roundw
          case rel => exact ⟨i + 1, by omega, by go_num, fun j c hj hc => by
            by_cases hji : j < i
            · exact hnod.out j c hji hc
            · obtain rfl : j = i := by omega
              rw [hctd.out] at hc; cases hc; exact he.out, hfrd.out.drewN _⟩
          case measure => simp [intOf]; omega
      · have hltI : decide ((i : Int) < (cn : Int)) = false := decide_eq_false (by omega)
        have hltN : decide (i < cn) = false := decide_eq_false hlt
        have hin : Hid (i = cn) := by show _ = _; omega
        clear hIr
        go_wp2_with fail
        go_quiet (fail)
        go_wp2_with fail
        go_meet
        case rel => exact ⟨by rw [at_none (fun j c hj hc => hnod.out j c (by rw [hin.out, hcn.out]; exact hj) hc), hin.out, hcn.out], hfrd.out.drewN _⟩
  case rest =>
    obtain ⟨hs5, hf0⟩ := hcut
    subst hs5
    have hI3 : Hid (RefIn wc L G p kk CA cn cc cv DA dn dc dv) := hI2.out.same hf0 (fun _ h => h.elim)
    have hX3 : Hid (Blk wc w.heap.size 35 #[.int .i64 3, .int .i64 src, .int .i64 dt, .int .i64 o, .int .i64 k, .slice A n c]) := hX2.out.fr hf0 (fun h => h)
    have hB3 : Hid (Below w.heap.size w wc) := hB2.out.trans (hf0.below (fun _ h => h.elim) hB2.out.size)
    have hLab : Hid (∀ i, w.heap.size ≤ i → L i = .no) := fun i hi => by
      cases hx : L i with
      | no => rfl
      | _ => exact absurd (hI.out.labs i (by rw [hx]; simp)) (by omega)
    obtain ⟨ai, hai⟩ : ∃ ai, Bra.at_ p.casts o k = ai := ⟨_, rfl⟩
    have hail : ai ≤ cn := by rw [← hai, hcn.out]; exact Bra.at_le _ _ _
    rw [hai]
    have haid := Lib.hid hai
    have gr3 : wc.cell? ⟨G, 3, none⟩ = some (.slice CA cn cc) := (hI3.out.blk.cell 3).trans rfl
    have hcn6 : Hid (cn ≤ 1000000) := hcnk
    clear hX2 hI2 hB2 hf0 hai
    go_upto_if 56 with fail
    go_cut [] from 50 to 70 (fun wx => ∃ (L1 : Nat → Lab) (CA1 : Option Addr) (cn1 cc1 : Nat) (cv1 : List Value), RefIn wx L1 G { p with casts := Bra.ensure p.casts o k } (kk + 1) CA1 cn1 cc1 cv1 DA dn dc dv ∧ Blk wx w.heap.size 35 #[.int .i64 3, .int .i64 src, .int .i64 dt, .int .i64 o, .int .i64 k, .slice A n c] ∧ L1 w.heap.size = .no ∧ (∀ i, i < w.heap.size → L1 i = L i) ∧ Fr (fun i => L i ≠ .no) w wx)
    case first =>
      by_cases hu : ai = cn
      · subst hu
        have hen : Hid (Bra.ensure p.casts o k = p.casts ++ [Bra.fresh o k]) := ensure_new (by rw [haid.out, hcn.out])
        go_wp2_with fail
        obtain ⟨V, hV⟩ : ∃ V, (Value.slice CA ai cc).ownBlock = V := ⟨_, rfl⟩
        have hVd := Lib.hid hV
        have gd : ∀ w', Ab wc.drew w' → w'.cell? ⟨G, 3, none⟩ = some (.slice CA ai cc) := fun w' h => (Below.cell h (p := ⟨G, 3, none⟩) hI3.out.blk.lt).trans gr3
        have x3 : ∀ w', Ab wc.drew w' → w'.cell? ⟨w.heap.size, 3, none⟩ = some (.int .i64 o) := fun w' h => (Below.cell h (p := ⟨w.heap.size, 3, none⟩) hX3.out.lt).trans ((hX3.out.cell 3).trans rfl)
        have x4 : ∀ w', Ab wc.drew w' → w'.cell? ⟨w.heap.size, 4, none⟩ = some (.int .i64 k) := fun w' h => (Below.cell h (p := ⟨w.heap.size, 4, none⟩) hX3.out.lt).trans ((hX3.out.cell 4).trans rfl)
        have fd : Hid (Fr (fun _ => False) wc wc.drew) := (Fr.refl _ wc).drew
        clear hV gr3 hail hcnk
        refine wp_region_late Ab Ab.refl Ab.trans [11, 14] (.one [0, 1, 2, 3, 5, 7] [4, 6, 8, 9] 10 (.one [] [] 11 (.one [12, 13] [] 14 (.last [] [])))) (by kernel_rfl) (by kernel_rfl) (fun _ _ _ _ _ h => h) ?_
        simp only [wpSchV, ordPick, Option.toList_some, List.cons_append, List.nil_append, List.getElem?_cons_succ, List.getElem?_cons_zero]
        generalize wc.drew = w4 at gd x3 x4 fd ⊢
        iterate 6 (go_big_quiet_step (exact fun _ => rfl))
        refine wpQuiet_nil ?_
        refine wpq_load_one rfl 29 (.tmp 60) rfl ⟨G, 3, none⟩ rfl _ gd _ Try.underlying29 rfl ?_
        simp only [Act.put, List.setIfInBounds_toArray, List.set_cons_succ, List.set_cons_zero]
        refine wpq_load_one rfl 3 (.tmp 62) rfl ⟨w.heap.size, 3, none⟩ rfl _ x3 _ Try.underlying3 rfl ?_
        simp only [Act.put, List.setIfInBounds_toArray, List.set_cons_succ, List.set_cons_zero]
        refine wpq_load_one rfl 3 (.tmp 64) rfl ⟨w.heap.size, 4, none⟩ rfl _ x4 _ Try.underlying3 rfl ?_
        simp only [Act.put, List.setIfInBounds_toArray, List.set_cons_succ, List.set_cons_zero]
        iterate 1 (go_big_quiet_step (exact fun _ => rfl))
        refine wpQuiet_nil ?_
        clear gd x3 x4
        go_wp2_with fail
        have hab : Ab w4 (w4.alloc (.cells #[.int .i64 o, .int .i64 k, .bool false, .bool false, .bool false, .slice none 0 0, .slice none 0 0] 88)) := (Below.refl _ _).alloc (Nat.le_refl _) _
        refine And.intro (.inr hab) (wpQuiet_nil (wpQuiet_nil ?_))
        clear hab
        have hown4 := own_alc (own_fr hI3.out.crow fd.out (fun _ _ h => h)) (.cells #[.int .i64 o, .int .i64 k, .bool false, .bool false, .bool false, .slice none 0 0, .slice none 0 0] 88)
        have r4 := Row.new (n := 1) (sz := 7) w4 88 #[.int .i64 o, .int .i64 k, .bool false, .bool false, .bool false, .slice none 0 0, .slice none 0 0] _ rfl rfl (by decide)
        have hail : ai ≤ 1000000 := hcn6.out
        go_wp2_with (at_builtin; refine wpl_app rfl (.tmp 61) (.tmp 67) 29 rfl 0 88 _ 7 72 Try.underlying29 infoCast rfl (by decide) (by decide) _ rfl ai cv hown4 _ _ 1 1 rfl _ r4 ?h1 (by omega) (Nat.zero_le _) (ai + 1) rfl ?h2)
        case h1 => exact ⟨rfl, rfl, rfl, rfl⟩
        case h2 =>
          intro A5 c5 w5 ho5 hg5 hz5
          rw [hVd.out] at hg5 hz5
          have f45 : Hid (Fr (fun i => V = some i) wc w5) := ((fd.out.alloc (.cells #[.int .i64 o, .int .i64 k, .bool false, .bool false, .bool false, .slice none 0 0, .slice none 0 0] 88)).mono (F := fun i => V = some i) (fun _ h => h.elim)).grown hg5 (fun g h => .inl h)
          have hVG : Hid (V ≠ some G) := fun e => by have h1 := hI3.out.clab G (by rw [hVd.out, e]); rw [hI3.out.lab] at h1; cases h1
          have hG5 := hI3.out.blk.fr f45.out hVG.out
          have c3 : w5.cell? ⟨G, 3, none⟩ = some (.slice CA ai cc) := (hG5.cell 3).trans rfl
          have fz3 := hG5.frozen 3
          have hG5d := Lib.hid hG5
          have ho5d := Lib.hid ho5
          have hz5d := Lib.hid hz5
          clear hown4 r4 ho5 hg5 hz5 hG5 hail
          go_wp2_with fail
          refine And.intro (.inl rfl) ?_
          dsimp only
          iterate 2 (go_big_quiet_step (exact fun _ => rfl))
          refine wpQuiet_nil (wpQuiet_nil ?_)
          go_wp2_with fail
          refine And.intro (.inl rfl) (wpQuiet_nil (wpQuiet_nil ?_))
          go_wp2_with fail
          go_meet
          case rel =>
            obtain ⟨L1, CA1, cn1, cc1, cv1, q1, q2, q3, q4, q5⟩ := pushed (o := o) (k := k) hI3.out hVd.out hK.out hB3.out hLab.out hX3.out fd.out.size f45.out hG5d.out ho5d.out hz5d.out rfl
            exact ⟨L1, CA1, cn1, cc1, cv1, by rw [hen.out]; exact q1, q2, q3, q4, q5⟩
      · have hb : ((ai : Int) == (cn : Int)) = false := by simp; omega
        have hen : Hid (Bra.ensure p.casts o k = p.casts) := ensure_old (by rw [haid.out, ← hcn.out]; omega)
        clear gr3
        go_wp2_with fail
        go_meet
        case rel => exact ⟨L, CA, cn, cc, cv, by rw [hen.out]; exact hI3.out.more (Nat.le_succ _) hK.out, hX3.out, hLab.out _ (Nat.le_refl _), fun _ _ => rfl, Fr.of_below hB3.out⟩
    case rest =>
      obtain ⟨L1, CA1, cn1, cc1, cv1, hI4, hX4, hLX, hL1, hf1⟩ := hcut
      obtain ⟨w4, rfl⟩ : ∃ x, x = wc := ⟨_, rfl⟩
      have hcx := Bra.ensure_at p.casts o k
      have hck := Bra.is_iff.1 (Bra.look_is p.casts o k)
      obtain ⟨ct, hct⟩ : ∃ ct, Bra.look p.casts o k = ct := ⟨_, rfl⟩
      have hrecv := Lib.hid (Bra.recv_valid hV.out hct)
      rw [hct, haid.out] at hcx
      rw [hct] at hck
      have hai1 : ai < (Bra.ensure p.casts o k).length := (List.getElem?_eq_some_iff.1 hcx).1
      have hcl : cn1 = (Bra.ensure p.casts o k).length := hI4.cnLen
      have hlt : ai < cn1 := by rw [hcl]; exact hai1
      have hltI : (ai : Int) < (cn1 : Int) := by omega
      obtain ⟨ve, vr, ⟨EA, en, ec, rfl, hve⟩, ⟨RA, rn, rc, rfl, hvr⟩, hcells⟩ := hI4.rcs.get hcx
      obtain ⟨cb, cur, hCA, hob, hcur, hsz, hput⟩ := own_put hI4.crow hlt
      subst hCA
      have hrow := own_row hI4.crow
      obtain ⟨b', q', hA', -, -, hat⟩ := hrow.at_ (by omega)
      obtain ⟨rfl, rfl⟩ : cb = b' ∧ 0 = q' := by simpa using hA'
      have hrng : w4.rangeAt cb (ai * 7) [.int .i64 ct.origin, .int .i64 ct.number, .bool ct.echoed, .bool ct.readied, .bool ct.delivered, .slice EA en ec, .slice RA rn rc] := fun j v hj => by
        have hj7 : j < 7 := by simpa using (List.getElem?_eq_some_iff.1 hj).1
        have := hat (ai * 7 + j) (by omega)
        rw [Nat.zero_add] at this
        rw [this, hcells j hj7]
        exact hj
      rw [hck.1, hck.2] at hrng
      have g3 : w4.cell? ⟨G, 3, none⟩ = some (.slice (some ⟨cb, 0, none⟩) cn1 cc1) := (hI4.blk.cell 3).trans rfl
      have hId := Lib.hid hI4
      have hXd := Lib.hid hX4
      have hLXd := Lib.hid hLX
      have hL1d := Lib.hid hL1
      have hf1d := Lib.hid hf1
      have hved := Lib.hid hve
      have hvrd := Lib.hid hvr
      have hobd := Lib.hid hob
      have hcurd := Lib.hid hcur
      have hszd := Lib.hid hsz
      have hputd := Lib.hid hput
      have hckd := Lib.hid hck
      have hctd := Lib.hid hct
      have hcxd := Lib.hid hcx
      have haid1 := Lib.hid hai1
      have hcn4 : Hid (cn1 ≤ 1000000) := by
        show _ ≤ _
        have h1 := hI4.cs; have h2 := hK.out
        rw [hcl]
        exact Nat.le_trans h1 h2
      clear hI4 hX4 hLX hL1 hf1 hve hvr hob hcur hsz hput hck hct hcx hcl hrow hat hA' hcells hail hcnk hai1 hI3 hX3 hB3
      go_upto_region 9 with (refine wpl_load_seven rfl 88 (.tmp 76) rfl cb (ai * 7) rfl _ _ _ _ _ _ _ hrng _ Try.underlying88 rfl (by kernel_rfl) ?_)
      obtain ⟨w5, hw5⟩ : ∃ x, w4.alloc (.cells #[.int .i64 o, .int .i64 k, .bool ct.echoed, .bool ct.readied, .bool ct.delivered, .slice EA en ec, .slice RA rn rc] 88) = x := ⟨_, rfl⟩
      have hT5 : Blk w5 w4.heap.size 88 #[.int .i64 o, .int .i64 k, .bool ct.echoed, .bool ct.readied, .bool ct.delivered, .slice EA en ec, .slice RA rn rc] := by rw [← hw5]; exact Blk.new' rfl
      have hb5 : Below w4.heap.size w4 w5 := by rw [← hw5]; exact (Below.refl _ _).alloc (Nat.le_refl _) _
      rw [hw5]
      clear hw5 hrng g3
      go_upto_region 10 with fail
      obtain ⟨w6, hw6⟩ : ∃ x, w5.alloc (.cells #[] 35) = x := ⟨_, rfl⟩
      have hb6 : Below w5.heap.size w5 w6 := by rw [← hw6]; exact (Below.refl _ _).alloc (Nat.le_refl _) _
      have hz6 : Hid (w5.heap.size < w6.heap.size) := by show _ < _; rw [← hw6]; simp
      rw [hw6]
      have hb46 := hb5.trans (hb6.mono hb5.size)
      have hT6 : Hid (Blk w6 w4.heap.size 88 #[.int .i64 o, .int .i64 k, .bool ct.echoed, .bool ct.readied, .bool ct.delivered, .slice EA en ec, .slice RA rn rc]) := hT5.below hb6 hT5.lt
      have hI6 : Hid (RefIn w6 L1 G { p with casts := Bra.ensure p.casts o k } (kk + 1) (some ⟨cb, 0, none⟩) cn1 cc1 cv1 DA dn dc dv) := hId.out.up hb46
      have hX6 := hXd.out.below hb46 hXd.out.lt
      have hR6 : Hid (Rd w6 (fun i => L i = .no) A n c bs) := hR.out.fr (hf1d.out.trans (Fr.of_below (F := fun _ => False) hb46) (fun _ h => h.elim)) (fun i hi hne => hne hi)
      have b6 := hR6.out.all
      have x0 : w6.cell? ⟨w.heap.size, 0, none⟩ = some (.int .i64 3) := (hX6.cell 0).trans rfl
      have x5 : w6.cell? ⟨w.heap.size, 5, none⟩ = some (.slice A n c) := (hX6.cell 5).trans rfl
      have g0 : w6.cell? ⟨G, 0, none⟩ = some (.int .i64 p.n) := (hI6.out.blk.cell 0).trans rfl
      have hX6d := Lib.hid hX6
      have hT5l : w4.heap.size < w5.heap.size := hT5.lt
      have hTl : Hid (w4.heap.size < w6.heap.size) := by show _ < _; have := hz6.out; omega
      have hXT : Hid (w.heap.size ≠ w4.heap.size) := by show _ ≠ _; have := hXd.out.lt; omega
      have hGT : Hid (G ≠ w4.heap.size) := by show _ ≠ _; have := hId.out.blk.lt; omega
      have hLT : Hid (L1 w4.heap.size = .no) := Classical.byContradiction fun hx => by have := hId.out.labs _ hx; omega
      have hved6 : Hid (Row w6 (fun i => L1 i = .byt) 2 EA en ec (vcs ct.echoes)) := hved.out.up hb46
      have hvrd6 : Hid (Row w6 (fun i => L1 i = .byt) 2 RA rn rc (vcs ct.readies)) := hvrd.out.up hb46
      have hvf : Hid (ct.echoes.length ≤ kk ∧ ct.readies.length ≤ kk) := by
        show _ ∧ _
        rw [← hctd.out]
        exact look_all (P := fun c => c.echoes.length ≤ kk ∧ c.readies.length ≤ kk) hI.out.vfew ⟨Nat.zero_le _, Nat.zero_le _⟩
      have hb46d := Lib.hid hb46
      have hn1000 : p.n ≤ 1000 := by have : p.n ≤ 64 := hI6.out.n2; omega
      clear hb5 hb6 hb46 hw6 hX6 hT5 hT5l hlt hltI hId hved hvrd hcurd
      go_wp2_with ((with_reducible refine wpl_string_bytes _ rfl 33 9 5 (.tmp 80) rfl ?_ ?_ ?_ w6.heap.size _ ?_ _ b6 ?_); rfl; rfl; rfl; rfl)
      refine (rfaults_any _ p.n hn1000).mono ?_
      rintro e w7 ⟨rfl, rfl⟩
      go_upto_block 2 with fail
      go_cut [7, 10] from 89 to 208 (fun s7 _ wx => ∃ (L2 : Nat → Lab) (c2 : Bra.Cast) (EA2 : Option Addr) (en2 ec2 : Nat) (RA2 : Option Addr) (rn2 rc2 : Nat) (DA2 : Option Addr) (dn2 dc2 : Nat) (dv2 : List Value) (dl : List Bra.Del) (A' : Option Addr) (n' c' : Nat) (out : List Bra.Pkt),
        s7 = .slice A' n' c' ∧ RefIn wx L2 G { p with casts := Bra.ensure p.casts o k, done := dl } (kk + 1) (some ⟨cb, 0, none⟩) cn1 cc1 cv1 DA2 dn2 dc2 dv2 ∧
        Blk wx w4.heap.size 88 #[.int .i64 o, .int .i64 k, .bool c2.echoed, .bool c2.readied, .bool c2.delivered, .slice EA2 en2 ec2, .slice RA2 rn2 rc2] ∧ L2 w4.heap.size = .no ∧
        Row wx (fun i => L2 i = .byt) 2 EA2 en2 ec2 (vcs c2.echoes) ∧ Row wx (fun i => L2 i = .byt) 2 RA2 rn2 rc2 (vcs c2.readies) ∧ (c2.echoes.length ≤ kk + 1 ∧ c2.readies.length ≤ kk + 1) ∧ (c2.origin = o ∧ c2.number = k) ∧
        Bra.recv p ⟨3, src, dt, o, k, bs⟩ = ({ p with casts := (Bra.ensure p.casts o k).set ai c2, done := dl }, out) ∧ RdP wx (fun i => w.heap.size ≤ i ∧ i ≠ w4.heap.size ∧ L2 i = .no) A' n' c' out ∧ (∀ i, i < w4.heap.size → L2 i = L1 i) ∧ Fr (fun i => L1 i ≠ .no) w4 wx)
      case first =>
        have hnR : rn ≤ 1000000 := by have h1 := hvf.out.2; have h2 := hK.out; have h3 := hvrd6.out.len; rw [vcs_len] at h3; omega
        have x1 : w6.cell? ⟨w.heap.size, 1, none⟩ = some (.int .i64 src) := (hX6d.out.cell 1).trans rfl
        have t6 : w6.cell? ⟨w4.heap.size, 6, none⟩ = some (.slice RA rn rc) := (hT6.out.cell 6).trans rfl
        clear b6 x5
        go_wp2_with fail
        refine (rvoted_any w6 hvrd6.out hnR src).mono ?_
        rintro e w7 ⟨rfl, rfl⟩
        rcases Bool.eq_false_or_eq_true (Bra.voted ct.readies src) with hvo | hvo
        · rw [hvo]
          have hst : Bra.step p.n ct ⟨3, src, dt, o, k, bs⟩ = (ct, false, false) := by simp [Bra.step, hvo]
          rw [hst] at hrecv
          have hr := Lib.hid hrecv.out
          rw [haid.out] at hr
          clear hst hvo g0 x1 t6
          go_wp2_with fail
          go_meet
          case rel =>
            refine ⟨L1, ct, EA, en, ec, RA, rn, rc, DA, dn, dc, dv, p.done, some ⟨w5.heap.size, 0, none⟩, 0, 0, [], rfl, hI6.out, hT6.out, hLT.out, hved6.out, hvrd6.out, ⟨Nat.le_succ_of_le hvf.out.1, Nat.le_succ_of_le hvf.out.2⟩, hckd.out, hr.out, ⟨[], rdp_nil _ _ _, rfl⟩, fun _ _ => rfl, Fr.of_below hb46d.out⟩
        rw [hvo]
        have hvod := Lib.hid hvo
        have hnRd := Lib.hid hnR
        clear hvo hnR t6 x1
        go_upto_region 14 with fail
        go_cut [] from 94 to 104 (fun wx => ∃ A6 c6, Row wx (fun i => w6.heap.size ≤ i) 2 A6 (rn + 1) c6 (vcs (ct.readies ++ [(src, bs)])) ∧ Blk wx w4.heap.size 88 #[.int .i64 o, .int .i64 k, .bool ct.echoed, .bool ct.readied, .bool ct.delivered, .slice EA en ec, .slice A6 (rn + 1) c6] ∧ Fr (fun i => i = w4.heap.size ∨ w6.heap.size ≤ i) w6 wx)
        case first =>
          have gd : ∀ w', AbB w6.heap.size w6.drew w' → w'.cell? ⟨w4.heap.size, 6, none⟩ = some (.slice RA rn rc) := fun w' h => (Below.cell h (p := ⟨w4.heap.size, 6, none⟩) hTl.out).trans ((hT6.out.cell 6).trans rfl)
          have xd : ∀ w', AbB w6.heap.size w6.drew w' → w'.cell? ⟨w.heap.size, 1, none⟩ = some (.int .i64 src) := fun w' h => (Below.cell h (p := ⟨w.heap.size, 1, none⟩) hX6d.out.lt).trans ((hX6d.out.cell 1).trans rfl)
          have b7 : Hid (Below w6.heap.size w6 w6.drew) := (Fr.refl (fun _ => False) w6).drew.below (fun _ h => h.elim) (Nat.le_refl _)
          have hnb : rn ≤ 1000000 := hnRd.out
          have h1v : ∀ u ∈ [Value.int .i64 src, .string ⟨bs.toArray⟩], u.oneCell' = true := by intro u hu; simp only [List.mem_cons, List.not_mem_nil, or_false] at hu; rcases hu with rfl | rfl <;> rfl
          have h1d := Lib.hid h1v
          clear h1v
          refine wp_region_late (AbB w6.heap.size) (AbB.refl _) (AbB.trans _) [11] (.two [1, 4, 6] [2, 5, 7] 0 (.two [] [] 3 (.one [] [] 8 (.one [] [] 9 (.one [10] [] 11 (.last [] [])))) 8 (.one [] [] 3 (.one [] [] 9 (.one [10] [] 11 (.last [] []))))) 8 (.one [] [] 0 (.one [] [] 3 (.one [] [] 9 (.one [10] [] 11 (.last [] [])))))) (by kernel_rfl) (by kernel_rfl) (fun _ _ _ _ _ h => h) ?_
          simp only [wpSchV, ordPick, Option.toList_some, List.cons_append, List.nil_append, List.getElem?_cons_succ, List.getElem?_cons_zero]
          generalize w6.drew = w7 at gd xd b7 ⊢
          iterate 3 (go_big_quiet_step (exact fun _ => rfl))
          refine wpQuiet_nil ?_
          refine wpq_load_one rfl 86 (.tmp 95) rfl ⟨w4.heap.size, 6, none⟩ rfl _ gd _ Try.underlying86 rfl ?_
          simp only [Act.put, List.setIfInBounds_toArray, List.set_cons_succ, List.set_cons_zero]
          refine wpq_load_one rfl 3 (.tmp 98) rfl ⟨w.heap.size, 1, none⟩ rfl _ xd _ Try.underlying3 rfl ?_
          simp only [Act.put, List.setIfInBounds_toArray, List.set_cons_succ, List.set_cons_zero]
          iterate 1 (go_big_quiet_step (exact fun _ => rfl))
          refine wpQuiet_nil ?_
          clear gd xd
          refine And.intro ?p0 ?p8
          case p0 =>
            go_wp2_with fail
            obtain ⟨w8, hw8⟩ : ∃ x, w7.alloc (.cells #[] 91) = x := ⟨_, rfl⟩
            have a8 : Below w6.heap.size w7 w8 := by rw [← hw8]; exact Below.alloc (Below.refl _ _) b7.out.size _
            have b8 : Hid (Below w6.heap.size w6 w8) := b7.out.trans a8
            have z8 : Hid (w8.heap.size = w7.heap.size + 1) := by show _ = _; rw [← hw8]; simp
            have o8 : Hid (w8.ownsRow w6.heap.size 91 2 (.slice (some ⟨w7.heap.size, 0, none⟩) 0 0) 0 []) := by show World.ownsRow _ _ _ _ _ _ _; rw [← hw8]; exact made0 _ _ _ _ b7.out.size
            rw [hw8]
            clear hw8
            refine And.intro (.inr a8) (wpQuiet_nil (wpQuiet_nil (And.intro ?q3 ?q8)))
            case q3 =>
              have r0 := hvrd6.out.up b8.out
              go_wp2_with (at_builtin; refine wpl_app rfl (.tmp 94) (.tmp 96) 86 rfl w6.heap.size 91 _ 2 24 Try.underlying86 infoVote rfl (by decide) (by decide) _ rfl 0 [] o8.out _ RA rn rc rfl _ r0 (vcs_one _) (by omega) b8.out.size rn (Nat.zero_add _) ?h2)
              case h2 =>
                intro A5 c5 w9 o9 g9 _
                have a9 : Below w6.heap.size w8 w9 := app_below g9 (fun k e => (own_lt o8.out k e).1) b8.out.size
                have b9 : Hid (Below w6.heap.size w6 w9) := b8.out.trans a9
                have gd9 := Lib.hid g9
                have od9 : Hid (w9.ownsRow w6.heap.size 91 2 (.slice A5 rn c5) rn (vcs ct.readies)) := o9
                clear r0 g9 o9
                go_wp2_with fail
                refine And.intro (.inr a9) (wpQuiet_nil (wpQuiet_nil ?_))
                go_wp2_with fail
                obtain ⟨w10, hw10⟩ : ∃ x, w9.alloc (.cells #[.int .i64 src, .string ⟨bs.toArray⟩] 91) = x := ⟨_, rfl⟩
                have a10 : Below w6.heap.size w9 w10 := by rw [← hw10]; exact Below.alloc (Below.refl _ _) b9.out.size _
                have b10 : Hid (Below w6.heap.size w6 w10) := b9.out.trans a10
                have z10 : Hid (w10.heap.size = w9.heap.size + 1) := by show _ = _; rw [← hw10]; simp
                have r10 : Hid (Row w10 (fun i => i = w9.heap.size) 2 (some ⟨w9.heap.size, 0, none⟩) 1 1 [.int .i64 src, .string ⟨bs.toArray⟩]) := by show Row _ _ _ _ _ _ _; rw [← hw10]; exact Row.new w9 91 #[.int .i64 src, .string ⟨bs.toArray⟩] _ rfl rfl (by decide)
                have p10 : Hid (w10.ownsRow w6.heap.size 91 2 (.slice A5 rn c5) rn (vcs ct.readies)) := by show World.ownsRow _ _ _ _ _ _ _; rw [← hw10]; exact own_alc od9.out _
                rw [hw10]
                clear hw10
                refine And.intro (.inr a10) (wpQuiet_nil (wpQuiet_nil ?_))
                go_wp2_with (at_builtin; refine wpl_app rfl (.tmp 97) (.tmp 102) 86 rfl w6.heap.size 91 _ 2 24 Try.underlying86 infoVote rfl (by decide) (by decide) _ rfl rn (vcs ct.readies) p10.out _ (some ⟨w9.heap.size, 0, none⟩) 1 1 rfl _ r10.out h1d.out (by omega) b10.out.size (rn + 1) rfl ?h2)
                case h2 =>
                  intro A6 c6 w11 o11 g11 _
                  have a11 : Below w6.heap.size w10 w11 := app_below g11 (fun k e => (own_lt p10.out k e).1) b10.out.size
                  have b11 : Hid (Below w6.heap.size w6 w11) := b10.out.trans a11
                  have od11 := Lib.hid o11
                  have T11 := hT6.out.below b11.out hTl.out
                  have tc11 : w11.cell? ⟨w4.heap.size, 6, none⟩ = some (.slice RA rn rc) := (T11.cell 6).trans rfl
                  have tf11 := T11.frozen 6
                  clear g11 o11 T11
                  go_wp2_with fail
                  refine And.intro (.inr a11) ?_
                  dsimp only
                  iterate 1 (go_big_quiet_step (exact fun _ => rfl))
                  refine wpQuiet_nil (wpQuiet_nil ?_)
                  go_wp2_with fail
                  refine And.intro (.inl rfl) (wpQuiet_nil (wpQuiet_nil ?_))
                  go_wp2_with fail
                  go_meet
                  case rel =>
                    obtain ⟨q1, q2, q3⟩ := voted_end hT6.out hTl.out b11.out (x := (src, bs)) od11.out (k := 6) rfl
                    exact ⟨A6, c6, q1, q2, q3⟩
            case q8 =>
              go_wp2_with fail
              obtain ⟨w9, hw9⟩ : ∃ x, w8.alloc (.cells #[.int .i64 src, .string ⟨bs.toArray⟩] 91) = x := ⟨_, rfl⟩
              have a9 : Below w6.heap.size w8 w9 := by rw [← hw9]; exact Below.alloc (Below.refl _ _) b8.out.size _
              have b9 : Hid (Below w6.heap.size w6 w9) := b8.out.trans a9
              have z9 : Hid (w9.heap.size = w8.heap.size + 1) := by show _ = _; rw [← hw9]; simp
              have r9 : Hid (Row w9 (fun i => i = w8.heap.size) 2 (some ⟨w8.heap.size, 0, none⟩) 1 1 [.int .i64 src, .string ⟨bs.toArray⟩]) := by show Row _ _ _ _ _ _ _; rw [← hw9]; exact Row.new w8 91 #[.int .i64 src, .string ⟨bs.toArray⟩] _ rfl rfl (by decide)
              have o9 : Hid (w9.ownsRow w6.heap.size 91 2 (.slice (some ⟨w7.heap.size, 0, none⟩) 0 0) 0 []) := by show World.ownsRow _ _ _ _ _ _ _; rw [← hw9]; exact own_alc o8.out _
              rw [hw9]
              clear hw9
              refine And.intro (.inr a9) (wpQuiet_nil (wpQuiet_nil ?_))
              have r0 := hvrd6.out.up b9.out
              go_wp2_with (at_builtin; refine wpl_app rfl (.tmp 94) (.tmp 96) 86 rfl w6.heap.size 91 _ 2 24 Try.underlying86 infoVote rfl (by decide) (by decide) _ rfl 0 [] o9.out _ RA rn rc rfl _ r0 (vcs_one _) (by omega) b9.out.size rn (Nat.zero_add _) ?h2)
              case h2 =>
                intro A5 c5 w10 o10 g10 _
                have a10 : Below w6.heap.size w9 w10 := app_below g10 (fun k e => (own_lt o9.out k e).1) b9.out.size
                have b10 : Hid (Below w6.heap.size w6 w10) := b9.out.trans a10
                have gd10 := Lib.hid g10
                have od10 : Hid (w10.ownsRow w6.heap.size 91 2 (.slice A5 rn c5) rn (vcs ct.readies)) := o10
                clear r0 g10 o10
                go_wp2_with fail
                refine And.intro (.inr a10) (wpQuiet_nil (wpQuiet_nil ?_))
                have r10 := app_row gd10.out r9.out (fun e => absurd (show w7.heap.size = w8.heap.size by simpa [Value.ownBlock] using e) (by have := z8.out; omega))
                have rd10 := Lib.hid r10
                clear r10
                go_wp2_with (at_builtin; refine wpl_app rfl (.tmp 97) (.tmp 102) 86 rfl w6.heap.size 91 _ 2 24 Try.underlying86 infoVote rfl (by decide) (by decide) _ rfl rn (vcs ct.readies) od10.out _ (some ⟨w8.heap.size, 0, none⟩) 1 1 rfl _ rd10.out h1d.out (by omega) b10.out.size (rn + 1) rfl ?h2)
                case h2 =>
                  intro A6 c6 w11 o11 g11 _
                  have a11 : Below w6.heap.size w10 w11 := app_below g11 (fun k e => (own_lt od10.out k e).1) b10.out.size
                  have b11 : Hid (Below w6.heap.size w6 w11) := b10.out.trans a11
                  have od11 := Lib.hid o11
                  have T11 := hT6.out.below b11.out hTl.out
                  have tc11 : w11.cell? ⟨w4.heap.size, 6, none⟩ = some (.slice RA rn rc) := (T11.cell 6).trans rfl
                  have tf11 := T11.frozen 6
                  clear g11 o11 T11
                  go_wp2_with fail
                  refine And.intro (.inr a11) ?_
                  dsimp only
                  iterate 1 (go_big_quiet_step (exact fun _ => rfl))
                  refine wpQuiet_nil (wpQuiet_nil ?_)
                  go_wp2_with fail
                  refine And.intro (.inl rfl) (wpQuiet_nil (wpQuiet_nil ?_))
                  go_wp2_with fail
                  go_meet
                  case rel =>
                    obtain ⟨q1, q2, q3⟩ := voted_end hT6.out hTl.out b11.out (x := (src, bs)) od11.out (k := 6) rfl
                    exact ⟨A6, c6, q1, q2, q3⟩
          case p8 =>
            go_wp2_with fail
            obtain ⟨w8, hw8⟩ : ∃ x, w7.alloc (.cells #[.int .i64 src, .string ⟨bs.toArray⟩] 91) = x := ⟨_, rfl⟩
            have a8 : Below w6.heap.size w7 w8 := by rw [← hw8]; exact Below.alloc (Below.refl _ _) b7.out.size _
            have b8 : Hid (Below w6.heap.size w6 w8) := b7.out.trans a8
            have z8 : Hid (w8.heap.size = w7.heap.size + 1) := by show _ = _; rw [← hw8]; simp
            have r8 : Hid (Row w8 (fun i => i = w7.heap.size) 2 (some ⟨w7.heap.size, 0, none⟩) 1 1 [.int .i64 src, .string ⟨bs.toArray⟩]) := by show Row _ _ _ _ _ _ _; rw [← hw8]; exact Row.new w7 91 #[.int .i64 src, .string ⟨bs.toArray⟩] _ rfl rfl (by decide)
            rw [hw8]
            clear hw8
            refine And.intro (.inr a8) (wpQuiet_nil (wpQuiet_nil ?_))
            go_wp2_with fail
            obtain ⟨w9, hw9⟩ : ∃ x, w8.alloc (.cells #[] 91) = x := ⟨_, rfl⟩
            have a9 : Below w6.heap.size w8 w9 := by rw [← hw9]; exact Below.alloc (Below.refl _ _) b8.out.size _
            have b9 : Hid (Below w6.heap.size w6 w9) := b8.out.trans a9
            have z9 : Hid (w9.heap.size = w8.heap.size + 1) := by show _ = _; rw [← hw9]; simp
            have o9 : Hid (w9.ownsRow w6.heap.size 91 2 (.slice (some ⟨w8.heap.size, 0, none⟩) 0 0) 0 []) := by show World.ownsRow _ _ _ _ _ _ _; rw [← hw9]; exact made0 _ _ _ _ b8.out.size
            have r9 : Hid (Row w9 (fun i => i = w7.heap.size) 2 (some ⟨w7.heap.size, 0, none⟩) 1 1 [.int .i64 src, .string ⟨bs.toArray⟩]) := by show Row _ _ _ _ _ _ _; rw [← hw9]; exact r8.out.fr ((Fr.refl (fun _ => False) w8).alloc _) (fun _ _ h => h)
            rw [hw9]
            clear hw9
            refine And.intro (.inr a9) (wpQuiet_nil (wpQuiet_nil ?_))
            have r0 := hvrd6.out.up b9.out
            go_wp2_with (at_builtin; refine wpl_app rfl (.tmp 94) (.tmp 96) 86 rfl w6.heap.size 91 _ 2 24 Try.underlying86 infoVote rfl (by decide) (by decide) _ rfl 0 [] o9.out _ RA rn rc rfl _ r0 (vcs_one _) (by omega) b9.out.size rn (Nat.zero_add _) ?h2)
            case h2 =>
              intro A5 c5 w10 o10 g10 _
              have a10 : Below w6.heap.size w9 w10 := app_below g10 (fun k e => (own_lt o9.out k e).1) b9.out.size
              have b10 : Hid (Below w6.heap.size w6 w10) := b9.out.trans a10
              have gd10 := Lib.hid g10
              have od10 : Hid (w10.ownsRow w6.heap.size 91 2 (.slice A5 rn c5) rn (vcs ct.readies)) := o10
              clear r0 g10 o10
              go_wp2_with fail
              refine And.intro (.inr a10) (wpQuiet_nil (wpQuiet_nil ?_))
              have r10 := app_row gd10.out r9.out (fun e => absurd (show w8.heap.size = w7.heap.size by simpa [Value.ownBlock] using e) (by have := z8.out; omega))
              have rd10 := Lib.hid r10
              clear r10
              go_wp2_with (at_builtin; refine wpl_app rfl (.tmp 97) (.tmp 102) 86 rfl w6.heap.size 91 _ 2 24 Try.underlying86 infoVote rfl (by decide) (by decide) _ rfl rn (vcs ct.readies) od10.out _ (some ⟨w7.heap.size, 0, none⟩) 1 1 rfl _ rd10.out h1d.out (by omega) b10.out.size (rn + 1) rfl ?h2)
              case h2 =>
                intro A6 c6 w11 o11 g11 _
                have a11 : Below w6.heap.size w10 w11 := app_below g11 (fun k e => (own_lt od10.out k e).1) b10.out.size
                have b11 : Hid (Below w6.heap.size w6 w11) := b10.out.trans a11
                have od11 := Lib.hid o11
                have T11 := hT6.out.below b11.out hTl.out
                have tc11 : w11.cell? ⟨w4.heap.size, 6, none⟩ = some (.slice RA rn rc) := (T11.cell 6).trans rfl
                have tf11 := T11.frozen 6
                clear g11 o11 T11
                go_wp2_with fail
                refine And.intro (.inr a11) ?_
                dsimp only
                iterate 1 (go_big_quiet_step (exact fun _ => rfl))
                refine wpQuiet_nil (wpQuiet_nil ?_)
                go_wp2_with fail
                refine And.intro (.inl rfl) (wpQuiet_nil (wpQuiet_nil ?_))
                go_wp2_with fail
                go_meet
                case rel =>
                  obtain ⟨q1, q2, q3⟩ := voted_end hT6.out hTl.out b11.out (x := (src, bs)) od11.out (k := 6) rfl
                  exact ⟨A6, c6, q1, q2, q3⟩
        case rest =>
          obtain ⟨A6, c6, hv8, hT8, f68⟩ := hcut
          obtain ⟨w8, rfl⟩ : ∃ x, x = wc := ⟨_, rfl⟩
          obtain ⟨L2, hLa, hLb, hLc, hLd⟩ := lab_ext L1 w6.heap.size w8.heap.size hI6.out.labs f68.size
          have hI8 : Hid (RefIn w8 L2 G { p with casts := Bra.ensure p.casts o k } (kk + 1) (some ⟨cb, 0, none⟩) cn1 cc1 cv1 DA dn dc dv) := hI6.out.fr (F := fun i => i = w4.heap.size ∨ w6.heap.size ≤ i) f68 (fun i h => by
            rcases h with h | h
            · rw [h]; exact hLT.out
            · exact Classical.byContradiction fun hx => by have := hI6.out.labs i hx; omega) hLa hLc
          have hvR : Hid (Row w8 (fun i => L2 i = .byt) 2 A6 (rn + 1) c6 (vcs (ct.readies ++ [(src, bs)]))) := by
            show Row _ _ _ _ _ _ _
            refine hv8.mono (fun i h1 h2 => hLb i h2 h1)
          have hvE : Hid (Row w8 (fun i => L2 i = .byt) 2 EA en ec (vcs ct.echoes)) := by
            show Row _ _ _ _ _ _ _
            refine (hved6.out.fr f68 (fun i h e => ?_)).mono (fun i _ h => by rw [hLa i (by rw [h]; simp), h])
            rcases e with e | e
            · rw [e, hLT.out] at h; cases h
            · have := hI6.out.labs i (by rw [h]; simp); omega
          have hT8d := Lib.hid hT8
          have hLdd := Lib.hid hLd
          have hLT2 : Hid (L2 w4.heap.size = .no) := by show _ = _; rw [hLd _ hTl.out]; exact hLT.out
          have hX8 : Hid (Blk w8 w.heap.size 35 #[.int .i64 3, .int .i64 src, .int .i64 dt, .int .i64 o, .int .i64 k, .slice A n c]) := hX6d.out.fr f68 (fun h => by
            rcases h with h | h
            · exact hXT.out h
            · have := hX6d.out.lt; omega)
          have f48 : Hid (Fr (fun i => L1 i ≠ .no) w4 w8) := (Fr.of_below (F := fun i => L1 i ≠ .no) hb46d.out).trans f68 (fun i h => by
            rcases h with h | h
            · exact .inr (by rw [h]; exact Nat.le_refl _)
            · exact .inr (by have := hTl.out; omega))
          have hnR1 : rn + 1 ≤ 1000000 := by have h1 := hvf.out.2; have h2 := hK.out; have h3 := hvrd6.out.len; rw [vcs_len] at h3; omega
          have hL12 : Hid (∀ i, i < w4.heap.size → L2 i = L1 i) := fun i hi => hLdd.out i (by have := hTl.out; omega)
          have hlv : Hid (ct.echoes.length ≤ kk + 1 ∧ (ct.readies ++ [(src, bs)]).length ≤ kk + 1) := ⟨Nat.le_succ_of_le hvf.out.1, by have h1 := hvf.out.2; simp; omega⟩
          clear hv8 hT8 f68 hLa hLb hLc hLd g0 x0
          have t6 : w8.cell? ⟨w4.heap.size, 6, none⟩ = some (.slice A6 (rn + 1) c6) := (hT8d.out.cell 6).trans rfl
          have hnum : Bra.count (ct.readies ++ [(src, bs)]) bs ≤ 1000000 := by have h1 := Bra.count_le (ct.readies ++ [(src, bs)]) bs; have h2 := hvR.out.len; rw [vcs_len] at h2; omega
          obtain ⟨cnt, hcnt⟩ : ∃ x, Bra.count (ct.readies ++ [(src, bs)]) bs = x := ⟨_, rfl⟩
          have hcntd := Lib.hid hcnt
          rw [hcnt] at hnum
          obtain ⟨ff, hff⟩ : ∃ x, Bra.faults p.n = x := ⟨_, rfl⟩
          have hffd := Lib.hid hff
          rw [hff]
          have hffl : ff ≤ 64 := by rw [← hff]; unfold Bra.faults; have : p.n ≤ 64 := hI6.out.n2; omega
          obtain ⟨s, hs⟩ : ∃ x, (decide (ff + 1 ≤ cnt) && !ct.readied) = x := ⟨_, rfl⟩
          obtain ⟨d, hd⟩ : ∃ x, (decide (2 * ff + 1 ≤ cnt) && !ct.delivered) = x := ⟨_, rfl⟩
          have hst := step3 (o := o) (k := k) (dt := dt) hvod.out rfl hcnt hff hs hd
          rw [hst] at hrecv
          have hsd := Lib.hid hs
          have hdd := Lib.hid hd
          clear hcnt hff hs hd hst
          go_wp2_with fail
          refine (rcount_any w8 hvR.out hnR1 bs).mono ?_
          rintro e w10 ⟨rfl, rfl⟩
          rw [hcntd.out]
          clear t6
          go_upto_region 16 with fail
          go_cut [117] from 109 to 116 (fun s117 wx => s117 = .bool s ∧ Fr (fun _ => False) w8 wx)
          case first =>
            have t3 : w8.cell? ⟨w4.heap.size, 3, none⟩ = some (.bool ct.readied) := (hT8d.out.cell 3).trans rfl
            have hfr := Lib.hid (Fr.refl (fun _ => False) w8)
            by_cases hq : ff + 1 ≤ cnt
            · have hqI : (ff : Int) + 1 ≤ (cnt : Int) := by omega
              rcases Bool.eq_false_or_eq_true ct.readied with hrd | hrd
              · rw [hrd] at t3
                have hss : Hid (s = false) := by show _ = _; rw [← hsd.out, hrd]; simp
                clear hrd
                go_wp2_with fail
                go_meet
                case rel => exact ⟨by rw [hss.out], hfr.out⟩
              · rw [hrd] at t3
                have hss : Hid (s = true) := by show _ = _; rw [← hsd.out, hrd]; simpa using hq
                clear hrd
                go_wp2_with fail
                go_meet
                case rel => exact ⟨by rw [hss.out], hfr.out⟩
            · have hqI : decide ((ff : Int) + 1 ≤ (cnt : Int)) = false := decide_eq_false (by omega)
              have hqN : decide (ff + 1 ≤ cnt) = false := decide_eq_false hq
              have hss : Hid (s = false) := by show _ = _; rw [← hsd.out, hqN]; rfl
              clear hq
              go_wp2_with fail
              go_meet
              case rel => exact ⟨by rw [hss.out], hfr.out⟩
          case rest =>
            obtain ⟨hs117, f89⟩ := hcut
            subst hs117
            obtain ⟨w9, rfl⟩ : ∃ x, x = wc := ⟨_, rfl⟩
            have hI9 : Hid (RefIn w9 L2 G { p with casts := Bra.ensure p.casts o k } (kk + 1) (some ⟨cb, 0, none⟩) cn1 cc1 cv1 DA dn dc dv) := hI8.out.same f89 (fun _ h => h.elim)
            have hX9 : Hid (Blk w9 w.heap.size 35 #[.int .i64 3, .int .i64 src, .int .i64 dt, .int .i64 o, .int .i64 k, .slice A n c]) := hX8.out.fr f89 (fun h => h)
            have hT9 := Lib.hid (hT8d.out.fr f89 (fun h => h))
            have hvE9 := Lib.hid (hvE.out.fr f89 (fun _ _ h => h))
            have hvR9 := Lib.hid (hvR.out.fr f89 (fun _ _ h => h))
            have f49 : Hid (Fr (fun i => L1 i ≠ .no) w4 w9) := f48.out.trans f89 (fun _ h => h.elim)
            clear hI8 hX8 hT8d hvE hvR f48 f89
            go_upto_if 117 with fail
            go_cut [7] from 109 to 125 (fun s7 wx => ∃ A' n' c', s7 = .slice A' n' c' ∧ RefIn wx L2 G { p with casts := Bra.ensure p.casts o k } (kk + 1) (some ⟨cb, 0, none⟩) cn1 cc1 cv1 DA dn dc dv ∧ Blk wx w4.heap.size 88 #[.int .i64 o, .int .i64 k, .bool ct.echoed, .bool (ct.readied || s), .bool ct.delivered, .slice EA en ec, .slice A6 (rn + 1) c6] ∧
              Blk wx w.heap.size 35 #[.int .i64 3, .int .i64 src, .int .i64 dt, .int .i64 o, .int .i64 k, .slice A n c] ∧ Row wx (fun i => L2 i = .byt) 2 EA en ec (vcs ct.echoes) ∧ Row wx (fun i => L2 i = .byt) 2 A6 (rn + 1) c6 (vcs (ct.readies ++ [(src, bs)])) ∧
              RdP wx (fun i => w.heap.size ≤ i ∧ i ≠ w4.heap.size ∧ L2 i = .no) A' n' c' (if s then Bra.all p.n p.self 3 o k bs else []) ∧ Fr (fun i => L1 i ≠ .no) w4 wx)
            case first =>
              rcases Bool.eq_false_or_eq_true s with hss | hss
              · rw [hss]
                have hssd := Lib.hid hss
                have fz := hT9.out.frozen 3
                have t3 : w9.cell? ⟨w4.heap.size, 3, none⟩ = some (.bool ct.readied) := (hT9.out.cell 3).trans rfl
                clear hss
                go_upto_region 18 with fail
                obtain ⟨w10, hw10⟩ : ∃ x, w9.setCell ⟨w4.heap.size, 3, none⟩ (.bool true) = x := ⟨_, rfl⟩
                have hT10 := hT9.out.set_ 3 (.bool true)
                have f910 : Fr (fun i => i = w4.heap.size) w9 (w9.setCell ⟨w4.heap.size, 3, none⟩ (.bool true)) := (Fr.refl (fun i => i = w4.heap.size) w9).setCell (p := ⟨w4.heap.size, 3, none⟩) (.inl rfl) _
                rw [hw10] at hT10 f910
                rw [hw10]
                have hX10 : Hid (Blk w10 w.heap.size 35 #[.int .i64 3, .int .i64 src, .int .i64 dt, .int .i64 o, .int .i64 k, .slice A n c]) := hX9.out.fr f910 hXT.out
                have x83 : w10.cell? ⟨w.heap.size, 3, none⟩ = some (.int .i64 o) := (hX10.out.cell 3).trans rfl
                have x84 : w10.cell? ⟨w.heap.size, 4, none⟩ = some (.int .i64 k) := (hX10.out.cell 4).trans rfl
                have hI10 : Hid (RefIn w10 L2 G { p with casts := Bra.ensure p.casts o k } (kk + 1) (some ⟨cb, 0, none⟩) cn1 cc1 cv1 DA dn dc dv) := hI9.out.same f910 (fun i e => by rw [e]; exact hLT2.out)
                have g80 : w10.cell? ⟨G, 0, none⟩ = some (.int .i64 p.n) := (hI10.out.blk.cell 0).trans rfl
                have g81 : w10.cell? ⟨G, 1, none⟩ = some (.int .i64 p.self) := (hI10.out.blk.cell 1).trans rfl
                have hT10d := Lib.hid hT10
                have f910d := Lib.hid f910
                clear hw10 hT10 f910 fz t3
                go_wp2_with fail
                refine (rall_any g80 g81 hI10.out.n2 hF.out 3 o k).mono ?_
                rintro e w11 ⟨A', c', rfl, hr11, hb11⟩
                have f9b : Fr (fun i => i = w4.heap.size) w9 w11 := f910d.out.trans (Fr.of_below (F := fun _ => False) hb11) (fun _ h => h.elim)
                have hb11d := Lib.hid hb11
                have hr11d := Lib.hid hr11
                have f9bd := Lib.hid f9b
                clear g80 g81 x83 x84 hb11 hr11 f9b
                go_wp2_with fail
                go_meet
                case rel =>
                  have z1 := f910d.out.size
                  have z2 := hTl.out
                  have z3 := hXd.out.lt
                  have z4 := f49.out.size
                  refine ⟨A', p.n, c', rfl, hI10.out.up hb11d.out, ?_, hX10.out.below hb11d.out hX10.out.lt, hvE9.out.fr f9bd.out (fun i h e => by rw [e, hLT2.out] at h; cases h), hvR9.out.fr f9bd.out (fun i h e => by rw [e, hLT2.out] at h; cases h), ?_, f49.out.trans f9bd.out (fun i e => .inr (by rw [e]; exact Nat.le_refl _))⟩
                  · rw [hssd.out, Bool.or_true]; exact hT10d.out.below hb11d.out hT10d.out.lt
                  · rw [hssd.out, if_pos rfl]
                    refine hr11d.out.mono (fun i _ h => ⟨by omega, ?_, ?_⟩)
                    · have := hT9.out.lt; omega
                    · exact Classical.byContradiction fun hx => by have := hI10.out.labs i hx; omega
              · rw [hss]
                have hssd := Lib.hid hss
                clear hss
                go_wp2_with fail
                go_meet
                case rel =>
                  exact ⟨some ⟨w5.heap.size, 0, none⟩, 0, 0, rfl, hI9.out, by rw [hssd.out, Bool.or_false]; exact hT9.out, hX9.out, hvE9.out, hvR9.out, by rw [hssd.out]; exact ⟨[], rdp_nil _ _ _, rfl⟩, f49.out⟩
            case rest =>
              obtain ⟨A', n', c', hs7, hI11, hT11, hX11, hvE11, hvR11, hout, f411⟩ := hcut
              subst hs7
              obtain ⟨w11, rfl⟩ : ∃ x, x = wc := ⟨_, rfl⟩
              have hI11 := Lib.hid hI11
              have hT11 := Lib.hid hT11
              have hX11 := Lib.hid hX11
              have hvE11 := Lib.hid hvE11
              have hvR11 := Lib.hid hvR11
              have hout := Lib.hid hout
              have f411 := Lib.hid f411
              clear hI9 hX9 hT9 hvE9 hvR9 f49
              go_upto_region 19 with fail
              go_cut [135] from 126 to 134 (fun s135 wx => s135 = .bool d ∧ Fr (fun _ => False) w11 wx)
              case first =>
                have t4 : w11.cell? ⟨w4.heap.size, 4, none⟩ = some (.bool ct.delivered) := (hT11.out.cell 4).trans rfl
                have hfr := Lib.hid (Fr.refl (fun _ => False) w11)
                by_cases hq : 2 * ff + 1 ≤ cnt
                · have hqI : 2 * (ff : Int) + 1 ≤ (cnt : Int) := by omega
                  rcases Bool.eq_false_or_eq_true ct.delivered with hrd | hrd
                  · rw [hrd] at t4
                    have hss : Hid (d = false) := by show _ = _; rw [← hdd.out, hrd]; simp
                    clear hrd
                    go_wp2_with fail
                    go_meet
                    case rel => exact ⟨by rw [hss.out], hfr.out⟩
                  · rw [hrd] at t4
                    have hss : Hid (d = true) := by show _ = _; rw [← hdd.out, hrd]; simpa using hq
                    clear hrd
                    go_wp2_with fail
                    go_meet
                    case rel => exact ⟨by rw [hss.out], hfr.out⟩
                · have hqI : decide (2 * (ff : Int) + 1 ≤ (cnt : Int)) = false := decide_eq_false (by omega)
                  have hqN : decide (2 * ff + 1 ≤ cnt) = false := decide_eq_false hq
                  have hss : Hid (d = false) := by show _ = _; rw [← hdd.out, hqN]; rfl
                  clear hq
                  go_wp2_with fail
                  go_meet
                  case rel => exact ⟨by rw [hss.out], hfr.out⟩
              case rest =>
                obtain ⟨hs135, f12⟩ := hcut
                subst hs135
                obtain ⟨w12, rfl⟩ : ∃ x, x = wc := ⟨_, rfl⟩
                have hI12 : Hid (RefIn w12 L2 G { p with casts := Bra.ensure p.casts o k } (kk + 1) (some ⟨cb, 0, none⟩) cn1 cc1 cv1 DA dn dc dv) := hI11.out.same f12 (fun _ h => h.elim)
                have hX12 : Hid (Blk w12 w.heap.size 35 #[.int .i64 3, .int .i64 src, .int .i64 dt, .int .i64 o, .int .i64 k, .slice A n c]) := hX11.out.fr f12 (fun h => h)
                have hT12 := Lib.hid (hT11.out.fr f12 (fun h => h))
                have hvE12 := Lib.hid (hvE11.out.fr f12 (fun _ _ h => h))
                have hvR12 := Lib.hid (hvR11.out.fr f12 (fun _ _ h => h))
                have hout12 := Lib.hid (hout.out.fr f12 (fun _ _ h => h))
                have f412 : Hid (Fr (fun i => L1 i ≠ .no) w4 w12) := f411.out.trans f12 (fun _ h => h.elim)
                clear hI11 hX11 hT11 hvE11 hvR11 hout f411 f12
                rcases Bool.eq_false_or_eq_true d with hds | hds
                rotate_left
                · rw [hds] at hrecv ⊢
                  have hr := Lib.hid hrecv.out
                  rw [haid.out] at hr
                  clear hds hrecv
                  go_wp2_with fail
                  have hffe := hffd.out
                  subst hffe
                  go_meet
                  case rel =>
                    refine ⟨L2, { ct with readies := ct.readies ++ [(src, bs)], readied := ct.readied || s }, EA, en, ec, A6, rn + 1, c6, DA, dn, dc, dv, p.done, A', n', c', if s then Bra.all p.n p.self 3 o k bs else [], rfl, hI12.out, hT12.out, hLT2.out, hvE12.out, hvR12.out, hlv.out, hckd.out, ?_, hout12.out, hL12.out, f412.out⟩
                    have hre := hr.out
                    simpa [Bra.reply] using hre
                · rw [hds] at hrecv ⊢
                  have hr := Lib.hid hrecv.out
                  rw [haid.out] at hr
                  clear hds hrecv
                  have fz := hT12.out.frozen 4
                  have t4 : w12.cell? ⟨w4.heap.size, 4, none⟩ = some (.bool ct.delivered) := (hT12.out.cell 4).trans rfl
                  go_upto_region 21 with fail
                  obtain ⟨wb, hwb⟩ : ∃ x, w12.setCell ⟨w4.heap.size, 4, none⟩ (.bool true) = x := ⟨_, rfl⟩
                  have hTb := hT12.out.set_ 4 (.bool true)
                  have f12b : Fr (fun i => i = w4.heap.size) w12 (w12.setCell ⟨w4.heap.size, 4, none⟩ (.bool true)) := (Fr.refl (fun i => i = w4.heap.size) w12).setCell (p := ⟨w4.heap.size, 4, none⟩) (.inl rfl) _
                  rw [hwb] at hTb f12b
                  rw [hwb]
                  have f12d : Fr (fun i => i = w4.heap.size) w12 wb.drew := f12b.drew
                  have hTd := Lib.hid (show Blk wb.drew w4.heap.size _ _ from hTb)
                  have hId : Hid (RefIn wb.drew L2 G { p with casts := Bra.ensure p.casts o k } (kk + 1) (some ⟨cb, 0, none⟩) cn1 cc1 cv1 DA dn dc dv) := hI12.out.same f12d (fun i e => by rw [e]; exact hLT2.out)
                  have hXe : Hid (Blk wb.drew w.heap.size 35 #[.int .i64 3, .int .i64 src, .int .i64 dt, .int .i64 o, .int .i64 k, .slice A n c]) := hX12.out.fr f12d hXT.out
                  have gd : ∀ w', Ab wb.drew w' → w'.cell? ⟨G, 4, none⟩ = some (.slice DA dn dc) := fun w' h => (Below.cell h (p := ⟨G, 4, none⟩) hId.out.blk.lt).trans ((hId.out.blk.cell 4).trans rfl)
                  have x3 : ∀ w', Ab wb.drew w' → w'.cell? ⟨w.heap.size, 3, none⟩ = some (.int .i64 o) := fun w' h => (Below.cell h (p := ⟨w.heap.size, 3, none⟩) hXe.out.lt).trans ((hXe.out.cell 3).trans rfl)
                  have x4 : ∀ w', Ab wb.drew w' → w'.cell? ⟨w.heap.size, 4, none⟩ = some (.int .i64 k) := fun w' h => (Below.cell h (p := ⟨w.heap.size, 4, none⟩) hXe.out.lt).trans ((hXe.out.cell 4).trans rfl)
                  have hdn : dn ≤ 1000000 := by have h1 := hId.out.dnLen; have h2 := hI.out.few; have h3 := hK.out; have h4 : dn = p.done.length := h1; omega
                  have hbm : bs.length ≤ maxLen := by have h1 : bs.length ≤ 140737488355328 := hF.out; simp only [maxLen]; omega
                  have f12e := Lib.hid f12d
                  clear hwb fz t4 hTb f12b f12d
                  refine wp_region_late Ab Ab.refl Ab.trans [13, 16] (.one [0, 1, 2, 3, 5, 7, 9] [4, 6, 8] 10 (.one [11] [] 12 (.one [] [] 13 (.one [14, 15] [] 16 (.last [] []))))) (by kernel_rfl) (by kernel_rfl) (fun _ _ _ _ _ h => h) ?_
                  simp only [wpSchV, ordPick, Option.toList_some, List.cons_append, List.nil_append, List.getElem?_cons_succ, List.getElem?_cons_zero]
                  generalize wb.drew = wd at gd x3 x4 hTd hId hXe f12e ⊢
                  iterate 7 (go_big_quiet_step (exact fun _ => rfl))
                  refine wpQuiet_nil ?_
                  refine wpq_load_one rfl 30 (.tmp 140) rfl ⟨G, 4, none⟩ rfl _ gd _ Try.underlying30 rfl ?_
                  simp only [Act.put, List.setIfInBounds_toArray, List.set_cons_succ, List.set_cons_zero]
                  refine wpq_load_one rfl 3 (.tmp 142) rfl ⟨w.heap.size, 3, none⟩ rfl _ x3 _ Try.underlying3 rfl ?_
                  simp only [Act.put, List.setIfInBounds_toArray, List.set_cons_succ, List.set_cons_zero]
                  refine wpq_load_one rfl 3 (.tmp 144) rfl ⟨w.heap.size, 4, none⟩ rfl _ x4 _ Try.underlying3 rfl ?_
                  simp only [Act.put, List.setIfInBounds_toArray, List.set_cons_succ, List.set_cons_zero]
                  refine wpQuiet_nil ?_
                  clear gd x3 x4
                  go_wp2_with ((with_reducible refine wpl_bytes_str rfl 9 33 5 (.tmp 146) rfl ?_ ?_ ?_ bs ?_ hbm ?_); rfl; rfl; rfl; rfl; intro cd w13 hd13 hg13)
                  have f13 : Hid (Fr (fun _ => False) wd w13) := (Fr.refl (fun _ => False) wd).grown hg13 (fun g h => by cases h)
                  have a13 : Ab wd w13 := f13.out.below (fun _ h => h.elim) (Nat.le_refl _)
                  have hd13d := Lib.hid hd13
                  clear hd13 hg13
                  go_wp2_with fail
                  refine And.intro (.inr a13) ?_
                  dsimp only
                  clear a13
                  iterate 1 (go_big_quiet_step (exact fun _ => rfl))
                  refine wpQuiet_nil (wpQuiet_nil ?_)
                  have own2 := own_alc (own_fr hId.out.drow f13.out (fun _ _ h => h)) (.cells #[.int .i64 o, .int .i64 k, .slice (some ⟨wd.heap.size, 0, none⟩) bs.length cd] 56)
                  have r2 := Row.new (n := 1) (sz := 3) w13 56 #[.int .i64 o, .int .i64 k, .slice (some ⟨wd.heap.size, 0, none⟩) bs.length cd] _ rfl rfl (by decide)
                  have f2 : Hid (Fr (fun _ => False) w13 (w13.alloc (.cells #[.int .i64 o, .int .i64 k, .slice (some ⟨wd.heap.size, 0, none⟩) bs.length cd] 56))) := (Fr.refl _ _).alloc _
                  have a2 : Ab w13 (w13.alloc (.cells #[.int .i64 o, .int .i64 k, .slice (some ⟨wd.heap.size, 0, none⟩) bs.length cd] 56)) := (Below.refl _ _).alloc (Nat.le_refl _) _
                  go_wp2_with fail
                  refine And.intro (.inr a2) (wpQuiet_nil (wpQuiet_nil ?_))
                  clear a2
                  have hw14 : w13.heap.size ≤ (w13.alloc (.cells #[.int .i64 o, .int .i64 k, .slice (some ⟨wd.heap.size, 0, none⟩) bs.length cd] 56)).heap.size := f2.out.size
                  generalize hw14e : w13.alloc (.cells #[.int .i64 o, .int .i64 k, .slice (some ⟨wd.heap.size, 0, none⟩) bs.length cd] 56) = w14 at own2 r2 f2 hw14 ⊢
                  clear hw14 hw14e
                  go_wp2_with (at_builtin; refine wpl_app rfl (.tmp 141) (.tmp 149) 30 rfl 0 56 _ 3 40 Try.underlying30 infoDel rfl (by decide) (by decide) _ rfl dn dv own2 _ _ 1 1 rfl _ r2 ?h1 (by omega) (Nat.zero_le _) (dn + 1) rfl ?h2)
                  case h1 =>
                    first
                      | exact ⟨rfl, rfl, rfl⟩
                      | (intro u hu
                         simp only [List.mem_cons, List.not_mem_nil, or_false] at hu
                         rcases hu with rfl | rfl | rfl <;> rfl)
                  case h2 =>
                    intro A5 c5 w15 ho15 hg15 hz15
                    have f15 : Hid (Fr (fun i => (Value.slice DA dn dc).ownBlock = some i) wd w15) := ((f13.out.trans f2.out (fun _ h => h.elim)).mono (F := fun i => (Value.slice DA dn dc).ownBlock = some i) (fun _ h => h.elim)).grown hg15 (fun g h => .inl h)
                    have hG15 := hId.out.blk.fr f15.out (fun e => by have h1 := hId.out.dlab G e; rw [hId.out.lab] at h1; cases h1)
                    have c4 : w15.cell? ⟨G, 4, none⟩ = some (.slice DA dn dc) := (hG15.cell 4).trans rfl
                    have fz4 := hG15.frozen 4
                    have ho15d := Lib.hid ho15
                    have hg15d := Lib.hid hg15
                    have hz15d := Lib.hid hz15
                    clear own2 r2 ho15 hg15 hz15 hG15
                    go_wp2_with fail
                    refine And.intro (.inl rfl) ?_
                    dsimp only
                    iterate 2 (go_big_quiet_step (exact fun _ => rfl))
                    refine wpQuiet_nil (wpQuiet_nil ?_)
                    go_wp2_with fail
                    refine And.intro (.inl rfl) (wpQuiet_nil (wpQuiet_nil ?_))
                    go_wp2_with fail
                    have hffe := hffd.out
                    subst hffe
                    go_meet
                    case rel =>
                      obtain ⟨L3, q1, q2, q3, q4⟩ := deld hId.out (by have h1 := hI.out.few; show p.done.length + 1 ≤ kk + 1; omega) hd13d.out f13.out f2.out hg15d.out ho15d.out hz15d.out rfl
                      have z0 : w4.heap.size < wd.heap.size := hTd.out.lt
                      have z1 := hXe.out.lt
                      have hno : ∀ i, L2 i = .no → ¬ ((Value.slice DA dn dc).ownBlock = some i ∨ i = G) := fun i h e => by
                        rcases e with e | e
                        · rw [hId.out.dlab i e] at h; cases h
                        · rw [e, hId.out.lab] at h; cases h
                      have hbt : ∀ i, L2 i = .byt → ¬ ((Value.slice DA dn dc).ownBlock = some i ∨ i = G) := fun i h e => by
                        rcases e with e | e
                        · rw [hId.out.dlab i e] at h; cases h
                        · rw [e, hId.out.lab] at h; cases h
                      refine ⟨L3, { ct with readies := ct.readies ++ [(src, bs)], readied := ct.readied || s, delivered := true }, EA, en, ec, A6, rn + 1, c6, A5, dn + 1, c5, _, p.done ++ [⟨o, k, bs⟩], A', n', c', if s then Bra.all p.n p.self 3 o k bs else [], rfl, q1, hTd.out.fr q4 (hno _ hLT2.out), ?_, ?_, ?_, hlv.out, hckd.out, ?_, ?_, ?_, ?_⟩
                      · rw [q2 _ z0]; exact hLT2.out
                      · exact ((hvE12.out.fr f12e.out (fun i h e => by rw [e, hLT2.out] at h; cases h)).fr q4 hbt).mono (fun i _ h => by rw [q3 i (by rw [h]; simp), h])
                      · exact ((hvR12.out.fr f12e.out (fun i h e => by rw [e, hLT2.out] at h; cases h)).fr q4 hbt).mono (fun i _ h => by rw [q3 i (by rw [h]; simp), h])
                      · have hre := hr.out
                        simpa [Bra.reply] using hre
                      · have hFn : ∀ i, ((Value.slice DA dn dc).ownBlock = some i ∨ i = G) → L2 i ≠ .no := fun i e h => hno i h e
                        refine RdP.fr (RdP.mono (S := fun i => w.heap.size ≤ i ∧ i ≠ w4.heap.size ∧ L2 i = .no) (T := fun i => w.heap.size ≤ i ∧ i ≠ w4.heap.size ∧ L3 i = .no) (RdP.fr hout12.out f12e.out (fun i h e => h.2.1 e)) (fun i hl h => ⟨h.1, h.2.1, by rw [q2 i hl]; exact h.2.2⟩)) q4 (fun i h e => hFn i e (by rw [← q3 i (hFn i e)]; exact h.2.2))
                      · intro i hi
                        rw [q2 i (by omega), hL12.out i hi]
                      · refine (f412.out.trans f12e.out (fun i e => .inr (by rw [e]; exact Nat.le_refl _))).trans q4 (fun i e => ?_)
                        rcases Nat.lt_or_ge i w4.heap.size with hl | hl
                        · refine .inl ?_
                          rw [← hL12.out i hl]
                          rcases e with e | e
                          · rw [hId.out.dlab i e]; simp
                          · rw [e, hId.out.lab]; simp
                        · exact .inr hl
      case rest =>
        obtain ⟨L2, c2, EA2, en2, ec2, RA2, rn2, rc2, DA2, dn2, dc2, dv2, dl, A', n', c', out, hs7, hIn, hTn, hLTn, hve2, hvr2, hvf2, hck2, hr2, hout, hL2, hf2⟩ := hcut
        subst hs7
        obtain ⟨w8, rfl⟩ : ∃ x, x = wc := ⟨_, rfl⟩
        have hlt : ai < cn1 := by rw [hIn.cnLen]; exact haid1.out
        have hltI : (ai : Int) < (cn1 : Int) := by omega
        obtain ⟨cb', cur2, hCA2, hob2, hcur2, hsz2, hput2⟩ := own_put hIn.crow hlt
        obtain rfl : cb = cb' := by simpa using hCA2
        have hS : L2 cb = .states := hIn.clab _ hob2
        have gd : ∀ w', Ab w8.drew w' → w'.cell? ⟨G, 3, none⟩ = some (.slice (some ⟨cb, 0, none⟩) cn1 cc1) := fun w' h => (Below.cell h (p := ⟨G, 3, none⟩) hIn.blk.lt).trans ((hIn.blk.cell 3).trans rfl)
        have tK : ∀ w', Ab w8.drew w' → Blk w' w4.heap.size 88 #[.int .i64 o, .int .i64 k, .bool c2.echoed, .bool c2.readied, .bool c2.delivered, .slice EA2 en2 ec2, .slice RA2 rn2 rc2] := fun w' h => Blk.below (w := w8.drew) hTn h hTn.lt
        have fd : Hid (Fr (fun _ => False) w8 w8.drew) := (Fr.refl _ w8).drew
        have hcur9 : Blk w8.drew cb 88 cur2 := hcur2
        have hInd := Lib.hid hIn
        have hve2d := Lib.hid hve2
        have hvr2d := Lib.hid hvr2
        have hvf2d := Lib.hid hvf2
        have hck2d := Lib.hid hck2
        have hr2d := Lib.hid hr2
        have houtd := Lib.hid hout
        have hL2d := Lib.hid hL2
        have hf2d := Lib.hid hf2
        have hob2d := Lib.hid hob2
        have hput2d := Lib.hid hput2
        have hSd := Lib.hid hS
        have hcn4' : cn1 ≤ 1000000 := hcn4.out
        clear hIn hTn hLTn hve2 hvr2 hvf2 hck2 hr2 hout hL2 hf2 hob2 hput2 hS hcur2 hCA2 hrecv b6 x0 x5 g0
        go_upto_region 32 with fail
        refine wp_region_late Ab Ab.refl Ab.trans [7] (.one [0, 1, 2, 4] [3, 5, 6] 7 (.last [] [])) (by kernel_rfl) (by kernel_rfl) (fun _ _ _ _ _ h => h) ?_
        simp only [wpSchV, ordPick, Option.toList_some, List.cons_append, List.nil_append, List.getElem?_cons_succ, List.getElem?_cons_zero]
        generalize w8.drew = w9 at gd tK fd hcur9 ⊢
        iterate 4 (go_big_quiet_step (exact fun _ => rfl))
        refine wpQuiet_nil ?_
        refine wpq_load_one rfl 29 (.tmp 211) rfl ⟨G, 3, none⟩ rfl _ gd _ Try.underlying29 rfl ?_
        simp only [Act.put, List.setIfInBounds_toArray, List.set_cons_succ, List.set_cons_zero]
        refine wpq_load_part rfl 88 (.tmp 6) rfl w4.heap.size 0 rfl 88 _ tK #[.int .i64 o, .int .i64 k, .bool c2.echoed, .bool c2.readied, .bool c2.delivered, .slice EA2 en2 ec2, .slice RA2 rn2 rc2] rfl _ Try.underlying88 rfl (by kernel_rfl) ?_
        simp only [Act.put, List.setIfInBounds_toArray, List.set_cons_succ, List.set_cons_zero]
        iterate 1 (go_big_quiet_step (exact fun _ => rfl))
        refine wpQuiet_nil ?_
        clear gd tK
        go_wp2_with (refine wpl_store_part rfl 88 (.tmp 215) (.tmp 214) rfl cb (ai * 7) rfl #[.int .i64 o, .int .i64 k, .bool c2.echoed, .bool c2.readied, .bool c2.delivered, .slice EA2 en2 ec2, .slice RA2 rn2 rc2] rfl 88 cur2 _ hcur9 (by kernel_rfl) hsz2 ?h1 rfl ?h2)
        case h1 => exact ⟨rfl, rfl, rfl, rfl, rfl, rfl, rfl⟩
        case h2 =>
          intro w10 hb10 hg10
          have hg10d := Lib.hid hg10
          have hb10d := Lib.hid hb10
          clear hg10 hb10
          go_wp2_with fail
          refine And.intro (.inl rfl) (wpQuiet_nil (wpQuiet_nil ?_))
          go_wp2_with fail
          go_ret
          have f10 : Fr (fun i => cb = i) w8 w10 := (fd.out.mono (F := fun i => cb = i) (fun _ h => h.elim)).grown hg10d.out (fun g h => .inl (by simpa using h))
          have hxs : rcells c2 (.slice EA2 en2 ec2) (.slice RA2 rn2 rc2) = [.int .i64 o, .int .i64 k, .bool c2.echoed, .bool c2.readied, .bool c2.delivered, .slice EA2 en2 ec2, .slice RA2 rn2 rc2] := by simp [rcells, hck2d.out.1, hck2d.out.2]
          have hrw := hput2d.out w10 _ (rcells c2 (.slice EA2 en2 ec2) (.slice RA2 rn2 rc2)) rfl (by rw [hxs]; simp) hb10d.out
          have hIf := hInd.out.put (c := c2) (e := .slice EA2 en2 ec2) (r := .slice RA2 rn2 rc2) (i := ai) haid1.out ⟨_, _, _, rfl, hve2d.out⟩ ⟨_, _, _, rfl, hvr2d.out⟩ hvf2d.out (f10.mono (fun i h => .inl (by rw [hob2d.out, h]))) hrw
          have z3 := hXd.out.lt
          have ne : ∀ i, L2 i = .no → ¬ cb = i := fun i h e => by rw [← e, hSd.out] at h; cases h
          refine ⟨L2, A', n', c', rfl, ?_, ?_, fun i hi => ?_, ?_⟩
          · rw [hr2d.out]; exact hIf.at_
          · rw [hr2d.out]; exact (houtd.out.fr f10 (fun i hi => ne i hi.2.2)).mono (fun i _ h => ⟨h.1, h.2.2⟩)
          · rw [hL2d.out i (by omega), hL1d.out i hi]
          · refine (hf1d.out.trans hf2d.out (fun i h => ?_)).trans f10 (fun i e => ?_)
            · rcases Nat.lt_or_ge i w.heap.size with hl | hl
              · rw [hL1d.out i hl] at h; exact .inl h
              · exact .inr hl
            · rcases Nat.lt_or_ge i w.heap.size with hl | hl
              · refine .inl ?_
                rw [← hL1d.out i hl, ← hL2d.out i (by omega), ← e, hSd.out]; simp
              · exact .inr hl
end Go.Proofs.Ytplijfgjdlghbaa

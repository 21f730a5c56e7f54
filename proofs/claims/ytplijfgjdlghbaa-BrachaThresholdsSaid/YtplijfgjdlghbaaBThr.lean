/-
  Whatever the order in which processes echo, a ready is sent exactly when the number of echoes exceeds (n + f) / 2; whatever the order of readies, one is sent exactly at f + 1 and the payload delivered exactly at 2f + 1.
-/
import Derived.Test.YtplijfgjdlghbaaBInts
import Derived.Test.YtplijfgjdlghbaaBLaw2
namespace Go.Proofs.Ytplijfgjdlghbaa.brachaThresholds
open Go.ChangeShapes Go.WideShapes Go.ChangeAt Go.RowKit Go.Pl
theorem infoBool : (Try.prog.info? 4).map (fun i => (i.zero, i.size, i.bytes)) = some (some (.bool false), 1, 1) := by kernel_rfl
/-- Which processes have been seen. -/
def sl (n : Nat) (l : List Int) : List Value := (List.range n).map fun (j : Nat) => .bool (l.contains (j : Int))
theorem sl_nil (n : Nat) : sl n [] = List.replicate n (.bool false) := by
  unfold sl
  rw [List.eq_replicate_iff]
  simp
theorem sl_get {n j : Nat} (l : List Int) (h : j < n) : (sl n l)[j]? = some (.bool (l.contains (j : Int))) := by simp [sl, h]
theorem sl_set {n j : Nat} (l : List Int) : (sl n l).set j (.bool true) = sl n (l ++ [(j : Int)]) := by
  apply List.ext_getElem
  · simp [sl]
  · intro i h1 h2
    simp only [sl, List.length_set, List.length_map, List.length_range] at h1
    simp only [sl, List.getElem_set, List.getElem_map, List.getElem_range]
    by_cases h : j = i
    · subst h; simp
    · rw [if_neg h]
      have : ¬ (i : Int) = (j : Int) := by omega
      simp [this]
theorem few_len {n : Nat} {l : List Int} (hn : l.Nodup) (h : ∀ x ∈ l, 0 ≤ x ∧ x < n) : l.length ≤ n := few_of n l hn h
set_option maxRecDepth 100000 in
set_option maxHeartbeats 8000000 in
theorem walk_yes (w : World) (n : Nat) (h1 : 1 ≤ n) (h2 : n ≤ 13) {A A2 : Option Addr} {len c pl pc : Nat} {zs : List Int} {s : List UInt8} (hr : Row w (fun _ => True) 1 A len c (zs.map iv)) (hI : I64s zs) (hlen : len ≤ 9223372036854775807)
    (hp : Rd w (fun _ => True) A2 pl pc s) (hpl : pl ≤ 2000) :
    Calls Try.prog 7 #[.int .i64 n, .slice A len c, .slice A2 pl pc] w fun e w' => e = .returned (.bool true) ∧ Below w.heap.size w w' := by
  have e1 : ¬ (n : Int) < 1 := by omega
  have e2 : ¬ (13 : Int) < (n : Int) := by omega
  have e3 : ¬ (2000 : Int) < (pl : Int) := by omega
  obtain ⟨fl, hfl⟩ : ∃ fl, Bra.faults n = fl := ⟨_, rfl⟩
  have hfe : ((n : Int) - 1) / 3 = (fl : Int) := by rw [← hfl]; unfold Bra.faults; omega
  have hfl5 : fl ≤ 13 := by rw [← hfl]; unfold Bra.faults; omega
  have hfld := Lib.hid hfl
  have hzl : Hid (len = zs.length) := by show _ = _; have := hr.len; simp at this; omega
  have hrd := Lib.hid (hr.mono (T := fun i => i < w.heap.size) (fun i hi _ => hi))
  have hpd := Lib.hid (hp.mono (T := fun i => i < w.heap.size) (fun i hi _ => hi))
  have hfit : Hid (Fits s) := by show _ ≤ _; have := hp.len; omega
  have hId := Lib.hid hI
  clear hr hp hI hfl
  go_enter Try.func7, Try.ntmps7
  go_wp2_with fail
  refine (awake_any _).mono ?_
  rintro e w1 ⟨rfl, hb1⟩
  go_wp2_with fail
  refine (new_any _ n 0 h1 (by omega) (by omega)).mono ?_
  rintro e w2 ⟨G1, L1, rfl, hp1, hl1, hb2'⟩
  have hm1 : Mine w w2 L1 G1 (Bra.start n 0) := ⟨hp1, hb1.trans (hb2'.mono hb1.size), fun i hi => Nat.le_trans hb1.size (hl1 i hi)⟩
  clear hl1 hb2' hp1
  go_wp2_with fail
  refine (new_any _ n 0 h1 (by omega) (by omega)).mono ?_
  rintro e w3 ⟨G2, L2, rfl, hp2, hl2, hb3'⟩
  have hm2 : Mine w w3 L2 G2 (Bra.start n 0) := ⟨hp2, hm1.below.trans (hb3'.mono hm1.below.size), fun i hi => Nat.le_trans hm1.below.size (hl2 i hi)⟩
  have hdis : Hid (∀ x, L1 x ≠ .no → L2 x = .no) := fun x hx => Classical.byContradiction (fun h => by have h3 := hl2 x h; have h4 := hm1.proc.labs x hx; omega)
  have hm1' := hm1.up hb3'
  clear hl2 hb3' hp2 hm1 hb1
  have hm1d := Lib.hid hm1'
  have hm2d := Lib.hid hm2
  have hbz := hm2.below.size
  clear hm1' hm2
  go_wp2_with (first | (refine wpl_make rfl 42 (.tmp 56) (.tmp 56) rfl w.heap.size 4 (.bool false) 1 Try.underlying42 infoBool rfl (by decide) .i64 .i64 n rfl rfl (by omega) hbz ?_; intro w4 ho4 hg4))
  have hb4 : Below w3.heap.size w3 w4 := (Below.refl _ _).grown hg4 (Nat.le_refl _) (by intro k hk; cases hk)
  have hm14 := hm1d.out.up hb4
  have hm24 := hm2d.out.up hb4
  have hg1 : L1 w3.heap.size = .no := Classical.byContradiction (fun h => by have := hm1d.out.proc.labs _ h; omega)
  have hg2 : L2 w3.heap.size = .no := Classical.byContradiction (fun h => by have := hm2d.out.proc.labs _ h; omega)
  rw [← sl_nil] at ho4
  obtain ⟨g, hgd⟩ : ∃ g, w3.heap.size = g := ⟨_, rfl⟩
  rw [hgd] at ho4 hg1 hg2
  rw [hgd]
  have hdisd := Lib.hid hdis.out
  clear e1 e2 e3 hfe hgd hg4 hb4 hbz hm1d hm2d
  go_loopw [13, 14] (fun t13 t14 wr => ∃ (i : Nat) (l : List Int) (L1 L2 : Nat → Lab) (p q : Bra.Proc), i ≤ len ∧ t14 = .int .i64 i ∧ t13 = .int .i64 l.length ∧ Mine w wr L1 G1 p ∧ Mine w wr L2 G2 q ∧ (∀ x, L1 x ≠ .no → L2 x = .no) ∧
      wr.ownsRow w.heap.size 4 1 (.slice (some ⟨g, 0, none⟩) n n) n (sl n l) ∧ L1 g = .no ∧ L2 g = .no ∧ Bra.EchoedBy n s l p ∧ Bra.ReadiedBy n s l q ∧ l.Nodup ∧ (∀ x ∈ l, 0 ≤ x ∧ x < (n : Int))) (fun _ t14 _ => len - (intOf t14).toNat)
  case atStart => exact ⟨0, [], L1, L2, _, _, by omega, rfl, rfl, hm14, hm24, hdisd.out, ho4, hg1, hg2, Bra.echoed_start n s, Bra.readied_start n s, List.nodup_nil, by simp⟩
  case round =>
    clear hm14 hm24 hdis hdisd ho4 hg1 hg2
    obtain ⟨i, l, L1', L2', p, q, hi, rfl, rfl, hmp, hmq, hdis, hsn, hg1, hg2, hep, hrq, hnd, hrg⟩ := hrel
    have hK : l.length ≤ n := few_len hnd hrg
    have hmpd := Lib.hid hmp
    have hmqd := Lib.hid hmq
    have hdisd := Lib.hid hdis
    have hsnd := Lib.hid hsn
    have hg1d := Lib.hid hg1
    have hg2d := Lib.hid hg2
    have hepd := Lib.hid hep
    have hrqd := Lib.hid hrq
    have hndd := Lib.hid hnd
    have hrgd := Lib.hid hrg
    clear hmp hmq hdis hsn hg1 hg2 hep hrq hnd hrg
    by_cases hlt : i < len
    · have hltI : (i : Int) < (len : Int) := by omega
      obtain ⟨b, off, rfl, hbs, -, hcell⟩ := hrd.out.at_ (by omega)
      have hiz : i < zs.length := by rw [← hzl.out]; exact hlt
      have hc0 := (hmpd.out.below.cell (p := ⟨b, off + i, none⟩) hbs).trans ((hcell i (by omega)).trans (iv_get zs i hiz))
      have hx64 := hId.out.get hiz
      obtain ⟨x, hx⟩ : ∃ x, zs.getD i 0 = x := ⟨_, rfl⟩
      rw [hx] at hc0 hx64
      obtain ⟨hgw, hgs, hgc, hgf, hgset⟩ := own_g hsnd.out
      have hbg : ¬ b = g := by omega
      clear hcell hx hiz
      by_cases c1 : x < 0
      · clear hgc hgf hgset
        go_wp2_with fail
        go_roundw
        case rel => exact ⟨i + 1, l, L1', L2', p, q, by omega, by go_num, rfl, hmpd.out, hmqd.out, hdisd.out, hsnd.out, hg1d.out, hg2d.out, hepd.out, hrqd.out, hndd.out, hrgd.out⟩
        case measure => simp [intOf] <;> omega
      · by_cases c2 : (n : Int) ≤ x
        · clear hgc hgf hgset
          go_wp2_with fail
          go_roundw
          case rel => exact ⟨i + 1, l, L1', L2', p, q, by omega, by go_num, rfl, hmpd.out, hmqd.out, hdisd.out, hsnd.out, hg1d.out, hg2d.out, hepd.out, hrqd.out, hndd.out, hrgd.out⟩
          case measure => simp [intOf] <;> omega
        · obtain ⟨X, rfl⟩ : ∃ X : Nat, x = (X : Int) := ⟨x.toNat, by omega⟩
          have hXn : X < n := by omega
          have hsc := (hgc X hXn).trans (sl_get l hXn)
          have hfz := hgf X
          cases hin : l.contains (X : Int)
          · rw [hin] at hsc
            have hset := hgset X (.bool true) hXn
            rw [sl_set] at hset
            have hsetd := Lib.hid hset
            have hind := Lib.hid hin
            clear hgc hgf hgset hset hin
            go_upto_region 19 with fail
            obtain ⟨u1, hu1⟩ : ∃ u1, wr.setCell ⟨g, X, none⟩ (.bool true) = u1 := ⟨_, rfl⟩
            have fu1 : Fr (fun i => i = g) wr (wr.setCell ⟨g, X, none⟩ (.bool true)) := (Fr.refl (fun i => i = g) wr).setCell (p := ⟨g, X, none⟩) (.inl rfl) _
            have hs1 := hsetd.out
            rw [hu1] at fu1 hs1
            rw [hu1]
            have mp1 : Mine w u1 L1' G1 p := ⟨hmpd.out.proc.fr fu1 (fun i e => by rw [e]; exact hg1d.out), hmpd.out.below.trans (fu1.below (fun i e => by rw [e]; exact hgw) hmpd.out.below.size), hmpd.out.labs⟩
            have mq1 : Mine w u1 L2' G2 q := ⟨hmqd.out.proc.fr fu1 (fun i e => by rw [e]; exact hg2d.out), mp1.below, hmqd.out.labs⟩
            have hcu : u1.cell? ⟨b, off + i, none⟩ = some (.int .i64 X) := (fu1.cell (p := ⟨b, off + i, none⟩) (by have := hmpd.out.below.size; show b < _; omega) hbg).trans hc0
            have hpay : ∀ {u : World} {L : Nat → Lab} {G : Nat} {p : Bra.Proc}, Mine w u L G p → Rd u (fun i => L i = .no) A2 pl pc s := fun hm => (hpd.out.fr (Fr.of_below (F := fun i => w.heap.size ≤ i) hm.below) (fun i h => by omega)).mono (fun i _ h => Classical.byContradiction (fun hx => by have := hm.labs i hx; omega))
            have hpayd := Lib.hid (hpay mp1)
            have mp1d := Lib.hid mp1
            have mq1d := Lib.hid mq1
            have hs1d := Lib.hid hs1
            have hdp : Hid (p.done.length < 1000000) := by show _ < _; rw [hepd.out.2.2.1]; decide
            have hgsz : Hid (g < u1.heap.size) := by show _ < _; have := fu1.size; omega
            clear hu1 fu1 hs1 mp1 mq1 hsc hfz hc0 hpay hmpd hmqd hsnd hsetd
            go_wp2_with fail
            refine (recv_any mp1d.out.proc ⟨2, X, 0, 0, 1, s⟩ hpayd.out hfit.out (show (1 : Int) ≤ 9223372036854775807 by decide) hdp.out).mono ?_
            intro e u2 hrec
            obtain ⟨L3, A3, n3, c3, rfl, hna, hm3, -, hlk3, hf3⟩ := mp1d.out.recv hrec
            obtain ⟨hep3, hna3⟩ := Bra.echo_one hepd.out h1 (by omega) (by omega) hind.out
            rw [hna3, hfld.out] at hna
            have hnad := Lib.hid hna
            clear hna
            obtain ⟨p3, hp3⟩ : ∃ p3, (Bra.recv p ⟨2, X, 0, 0, 1, s⟩).1 = p3 := ⟨_, rfl⟩
            rw [hp3] at hm3 hep3
            have mq2 : Mine w u2 L2' G2 q := ⟨mq1d.out.proc.fr hf3 (fun i hi => hdisd.out i hi), hm3.below, mq1d.out.labs⟩
            have hs2 := own_fr hs1d.out hf3 (fun g' e h => by cases e; exact h hg1d.out)
            have hL3g : Hid (L3 g = .no) := by show _ = _; rw [hlk3 g hgsz.out]; exact hg1d.out
            have hdis2 : Hid (∀ x, L3 x ≠ .no → L2' x = .no) := fun x hx => by
              rcases Nat.lt_or_ge x u1.heap.size with h | h
              · exact hdisd.out x (by rw [← hlk3 x h]; exact hx)
              · exact Classical.byContradiction (fun h2 => by have := mq1d.out.proc.labs x h2; omega)
            have hcu2 : u2.cell? ⟨b, off + i, none⟩ = some (.int .i64 X) := (hf3.cell (p := ⟨b, off + i, none⟩) (World.block_lt_of_cell? u1 _ hcu) (fun hx => by have := mp1d.out.labs b hx; omega)).trans hcu
            have hpay2 : Hid (Rd u2 (fun i => L2' i = .no) A2 pl pc s) := (hpd.out.fr (Fr.of_below (F := fun i => w.heap.size ≤ i) mq2.below) (fun i h => by omega)).mono (fun i _ h => Classical.byContradiction (fun hx => by have := mq2.labs i hx; omega))
            have hdq0 : Hid (q.done.length < 1000000) := by show _ < _; rw [hrqd.out.2.2.1]; split <;> omega
            have hgsz2 : Hid (g < u2.heap.size) := by show _ < _; have := hf3.size; have := hgsz.out; omega
            have hm3d := Lib.hid hm3
            have mq2d := Lib.hid mq2
            have hs2d := Lib.hid hs2
            have hep := Lib.hid hep3
            clear hrec hlk3 hf3 hna3 hp3 hm3 mq2 hs2 hep3 hcu mp1d mq1d hs1d hpayd
            go_wp2_with fail
            refine (recv_any mq2d.out.proc ⟨3, X, 0, 0, 1, s⟩ hpay2.out hfit.out (show (1 : Int) ≤ 9223372036854775807 by decide) hdq0.out).mono ?_
            intro e u3 hrec
            obtain ⟨L4, A4, n4, c4, rfl, hnb, hm4, -, hlk4, hf4⟩ := mq2d.out.recv hrec
            obtain ⟨hrq4, hnb4⟩ := Bra.ready_one hrqd.out h1 (by omega) (by omega) hind.out
            rw [hnb4, hfld.out] at hnb
            obtain ⟨q3, hq3⟩ : ∃ q3, (Bra.recv q ⟨3, X, 0, 0, 1, s⟩).1 = q3 := ⟨_, rfl⟩
            rw [hq3] at hm4 hrq4
            have hsym : ∀ x, L2' x ≠ .no → L3 x = .no := fun x hx => Classical.byContradiction (fun h => hx (hdis2.out x h))
            have mp : Hid (Mine w u3 L3 G1 p3) := ⟨hm3d.out.proc.fr hf4 (fun i hi => hsym i hi), hm4.below, hm3d.out.labs⟩
            have mq := Lib.hid hm4
            have sn := Lib.hid (own_fr hs2d.out hf4 (fun g' e h => by cases e; exact h hg2d.out))
            have hL4g : Hid (L4 g = .no) := by show _ = _; rw [hlk4 g hgsz2.out]; exact hg2d.out
            have hdis3 : Hid (∀ x, L3 x ≠ .no → L4 x = .no) := fun x hx => by
              rcases Nat.lt_or_ge x u2.heap.size with h | h
              · rw [hlk4 x h]; exact hdis2.out x hx
              · exact absurd (hm3d.out.proc.labs x hx) (by omega)
            have hrq := Lib.hid hrq4
            have hnm : ¬ (X : Int) ∈ l := by have := hind.out; simpa using this
            have hnd : Hid ((l ++ [(X : Int)]).Nodup) := by
              show List.Nodup _
              rw [List.nodup_append]
              exact ⟨hndd.out, by simp, fun a ha b hb => by simp at hb; rw [hb]; intro e; exact hnm (e ▸ ha)⟩
            have hrg3 : Hid (∀ x ∈ l ++ [(X : Int)], 0 ≤ x ∧ x < (n : Int)) := fun x hx => by
              rcases List.mem_append.1 hx with hx | hx
              · exact hrgd.out x hx
              · have : x = (X : Int) := by simpa using hx
                omega
            have hdq := hrq4.2.2.1
            rw [hfld.out, List.length_append, List.length_singleton] at hdq
            have hK1 : l.length + 1 ≤ n := by have := few_len hnd.out hrg3.out; simpa using this
            have hn0 : ((0 : Int) == (n : Int)) = false := by simp; omega
            have hn1 : ((n : Int) == 0) = false := by simp; omega
            have hn2 : ¬ (n : Int) = 0 := by omega
            have hn3 : ¬ (0 : Int) = (n : Int) := by omega
            have hna := hnad.out
            obtain ⟨K, hKd⟩ : ∃ K, l.length = K := ⟨_, rfl⟩
            rw [hKd] at hna hnb hdq hK1 hK
            rw [hKd]
            have hKdd := Lib.hid hKd
            clear hnad hrec hlk4 hf4 hnb4 hq3 hm4 hsym hrq4 hnm hcu2 hKd hm3d mq2d hs2d hpay2
            rcases (by omega : (n + fl < 2 * (K + 1) ∧ ¬ n + fl < 2 * K) ∨ (n + fl < 2 * (K + 1) ∧ n + fl < 2 * K) ∨ (¬ n + fl < 2 * (K + 1) ∧ ¬ n + fl < 2 * K)) with ⟨ha, hbb⟩ | ⟨ha, hbb⟩ | ⟨ha, hbb⟩
            · rw [if_pos ⟨ha, hbb⟩] at hna
              subst n3
              have ha1 : ((n : Int) + (fl : Int) < 2 * ((K : Int) + 1)) := by omega
              have hb1 : (2 * (K : Int) ≤ (n : Int) + (fl : Int)) := by omega
              clear ha hbb
              by_cases hcc : K = fl
              · rw [if_pos (by omega)] at hnb
                subst n4
                subst hcc
                by_cases hdd : 2 * K ≤ K
                · rw [if_pos (by omega)] at hdq
                  have d1 : (2 * (K : Int) ≤ (K : Int)) := by omega
                  have d2 : (2 * (K : Int) + 1 ≤ (K : Int) + 1) := by omega
                  clear hdd
                  go_wp2_with fail
                  refine (delivered_any mq.out.proc).mono ?_
                  rintro e w4 ⟨A4, n4, c4, rfl, hd4, hb4⟩
                  have e4 := hd4.len
                  rw [hdq] at e4
                  subst e4
                  have mp4 := Lib.hid (mp.out.up hb4)
                  have mq4 := Lib.hid (mq.out.up hb4)
                  have sn4 := Lib.hid (own_upd sn.out hb4)
                  clear hd4 hb4
                  go_wp2_with fail
                  refine (delivered_any mp4.out.proc).mono ?_
                  rintro e w5 ⟨A5, n5, c5, rfl, hd5, hb5⟩
                  have e5 := hd5.len
                  rw [hep.out.2.2.1] at e5
                  subst e5
                  have mp5 := mp4.out.up hb5
                  have mq5 := mq4.out.up hb5
                  have sn5 := own_upd sn4.out hb5
                  clear hd5 hb5
                  go_wp2_with fail
                  go_roundw
                  case rel => exact ⟨i + 1, l ++ [(X : Int)], L3, L4, p3, q3, by omega, by go_num, by rw [List.length_append, List.length_singleton, hKdd.out] <;> rfl, mp5, mq5, hdis3.out, sn5, hL3g.out, hL4g.out, hep.out, hrq.out, hnd.out, hrg3.out⟩
                  all_goals (simp [intOf] <;> omega)
                · rw [if_neg (by omega)] at hdq
                  have d1 : ¬ (2 * (K : Int) ≤ (K : Int)) := by omega
                  have d2 : ¬ (2 * (K : Int) + 1 ≤ (K : Int) + 1) := by omega
                  clear hdd
                  go_wp2_with fail
                  refine (delivered_any mq.out.proc).mono ?_
                  rintro e w4 ⟨A4, n4, c4, rfl, hd4, hb4⟩
                  have e4 := hd4.len
                  rw [hdq] at e4
                  subst e4
                  have mp4 := Lib.hid (mp.out.up hb4)
                  have mq4 := Lib.hid (mq.out.up hb4)
                  have sn4 := Lib.hid (own_upd sn.out hb4)
                  clear hd4 hb4
                  go_wp2_with fail
                  refine (delivered_any mp4.out.proc).mono ?_
                  rintro e w5 ⟨A5, n5, c5, rfl, hd5, hb5⟩
                  have e5 := hd5.len
                  rw [hep.out.2.2.1] at e5
                  subst e5
                  have mp5 := mp4.out.up hb5
                  have mq5 := mq4.out.up hb5
                  have sn5 := own_upd sn4.out hb5
                  clear hd5 hb5
                  go_wp2_with fail
                  go_roundw
                  case rel => exact ⟨i + 1, l ++ [(X : Int)], L3, L4, p3, q3, by omega, by go_num, by rw [List.length_append, List.length_singleton, hKdd.out] <;> rfl, mp5, mq5, hdis3.out, sn5, hL3g.out, hL4g.out, hep.out, hrq.out, hnd.out, hrg3.out⟩
                  all_goals (simp [intOf] <;> omega)
              · rw [if_neg (by omega)] at hnb
                subst n4
                have c1 : ((K : Int) == (fl : Int)) = false := by simp; omega
                have c2 : ((K : Int) + 1 == (fl : Int) + 1) = false := by simp; omega
                have c3 : ¬ (K : Int) = (fl : Int) := by omega
                by_cases hdd : 2 * fl ≤ K
                · rw [if_pos (by omega)] at hdq
                  have d1 : (2 * (fl : Int) ≤ (K : Int)) := by omega
                  have d2 : (2 * (fl : Int) + 1 ≤ (K : Int) + 1) := by omega
                  clear hdd
                  go_wp2_with fail
                  refine (delivered_any mq.out.proc).mono ?_
                  rintro e w4 ⟨A4, n4, c4, rfl, hd4, hb4⟩
                  have e4 := hd4.len
                  rw [hdq] at e4
                  subst e4
                  have mp4 := Lib.hid (mp.out.up hb4)
                  have mq4 := Lib.hid (mq.out.up hb4)
                  have sn4 := Lib.hid (own_upd sn.out hb4)
                  clear hd4 hb4
                  go_wp2_with fail
                  refine (delivered_any mp4.out.proc).mono ?_
                  rintro e w5 ⟨A5, n5, c5, rfl, hd5, hb5⟩
                  have e5 := hd5.len
                  rw [hep.out.2.2.1] at e5
                  subst e5
                  have mp5 := mp4.out.up hb5
                  have mq5 := mq4.out.up hb5
                  have sn5 := own_upd sn4.out hb5
                  clear hd5 hb5
                  go_wp2_with fail
                  go_roundw
                  case rel => exact ⟨i + 1, l ++ [(X : Int)], L3, L4, p3, q3, by omega, by go_num, by rw [List.length_append, List.length_singleton, hKdd.out] <;> rfl, mp5, mq5, hdis3.out, sn5, hL3g.out, hL4g.out, hep.out, hrq.out, hnd.out, hrg3.out⟩
                  all_goals (simp [intOf] <;> omega)
                · rw [if_neg (by omega)] at hdq
                  have d1 : ¬ (2 * (fl : Int) ≤ (K : Int)) := by omega
                  have d2 : ¬ (2 * (fl : Int) + 1 ≤ (K : Int) + 1) := by omega
                  clear hdd
                  go_wp2_with fail
                  refine (delivered_any mq.out.proc).mono ?_
                  rintro e w4 ⟨A4, n4, c4, rfl, hd4, hb4⟩
                  have e4 := hd4.len
                  rw [hdq] at e4
                  subst e4
                  have mp4 := Lib.hid (mp.out.up hb4)
                  have mq4 := Lib.hid (mq.out.up hb4)
                  have sn4 := Lib.hid (own_upd sn.out hb4)
                  clear hd4 hb4
                  go_wp2_with fail
                  refine (delivered_any mp4.out.proc).mono ?_
                  rintro e w5 ⟨A5, n5, c5, rfl, hd5, hb5⟩
                  have e5 := hd5.len
                  rw [hep.out.2.2.1] at e5
                  subst e5
                  have mp5 := mp4.out.up hb5
                  have mq5 := mq4.out.up hb5
                  have sn5 := own_upd sn4.out hb5
                  clear hd5 hb5
                  go_wp2_with fail
                  go_roundw
                  case rel => exact ⟨i + 1, l ++ [(X : Int)], L3, L4, p3, q3, by omega, by go_num, by rw [List.length_append, List.length_singleton, hKdd.out] <;> rfl, mp5, mq5, hdis3.out, sn5, hL3g.out, hL4g.out, hep.out, hrq.out, hnd.out, hrg3.out⟩
                  all_goals (simp [intOf] <;> omega)
            · rw [if_neg (fun h => h.2 hbb)] at hna
              subst n3
              have ha1 : ((n : Int) + (fl : Int) < 2 * ((K : Int) + 1)) := by omega
              have hb1 : ¬ (2 * (K : Int) ≤ (n : Int) + (fl : Int)) := by omega
              clear ha hbb
              by_cases hcc : K = fl
              · exfalso; omega
              · rw [if_neg (by omega)] at hnb
                subst n4
                have c1 : ((K : Int) == (fl : Int)) = false := by simp; omega
                have c2 : ((K : Int) + 1 == (fl : Int) + 1) = false := by simp; omega
                have c3 : ¬ (K : Int) = (fl : Int) := by omega
                by_cases hdd : 2 * fl ≤ K
                · rw [if_pos (by omega)] at hdq
                  have d1 : (2 * (fl : Int) ≤ (K : Int)) := by omega
                  have d2 : (2 * (fl : Int) + 1 ≤ (K : Int) + 1) := by omega
                  clear hdd
                  go_wp2_with fail
                  refine (delivered_any mq.out.proc).mono ?_
                  rintro e w4 ⟨A4, n4, c4, rfl, hd4, hb4⟩
                  have e4 := hd4.len
                  rw [hdq] at e4
                  subst e4
                  have mp4 := Lib.hid (mp.out.up hb4)
                  have mq4 := Lib.hid (mq.out.up hb4)
                  have sn4 := Lib.hid (own_upd sn.out hb4)
                  clear hd4 hb4
                  go_wp2_with fail
                  refine (delivered_any mp4.out.proc).mono ?_
                  rintro e w5 ⟨A5, n5, c5, rfl, hd5, hb5⟩
                  have e5 := hd5.len
                  rw [hep.out.2.2.1] at e5
                  subst e5
                  have mp5 := mp4.out.up hb5
                  have mq5 := mq4.out.up hb5
                  have sn5 := own_upd sn4.out hb5
                  clear hd5 hb5
                  go_wp2_with fail
                  go_roundw
                  case rel => exact ⟨i + 1, l ++ [(X : Int)], L3, L4, p3, q3, by omega, by go_num, by rw [List.length_append, List.length_singleton, hKdd.out] <;> rfl, mp5, mq5, hdis3.out, sn5, hL3g.out, hL4g.out, hep.out, hrq.out, hnd.out, hrg3.out⟩
                  all_goals (simp [intOf] <;> omega)
                · rw [if_neg (by omega)] at hdq
                  have d1 : ¬ (2 * (fl : Int) ≤ (K : Int)) := by omega
                  have d2 : ¬ (2 * (fl : Int) + 1 ≤ (K : Int) + 1) := by omega
                  clear hdd
                  go_wp2_with fail
                  refine (delivered_any mq.out.proc).mono ?_
                  rintro e w4 ⟨A4, n4, c4, rfl, hd4, hb4⟩
                  have e4 := hd4.len
                  rw [hdq] at e4
                  subst e4
                  have mp4 := Lib.hid (mp.out.up hb4)
                  have mq4 := Lib.hid (mq.out.up hb4)
                  have sn4 := Lib.hid (own_upd sn.out hb4)
                  clear hd4 hb4
                  go_wp2_with fail
                  refine (delivered_any mp4.out.proc).mono ?_
                  rintro e w5 ⟨A5, n5, c5, rfl, hd5, hb5⟩
                  have e5 := hd5.len
                  rw [hep.out.2.2.1] at e5
                  subst e5
                  have mp5 := mp4.out.up hb5
                  have mq5 := mq4.out.up hb5
                  have sn5 := own_upd sn4.out hb5
                  clear hd5 hb5
                  go_wp2_with fail
                  go_roundw
                  case rel => exact ⟨i + 1, l ++ [(X : Int)], L3, L4, p3, q3, by omega, by go_num, by rw [List.length_append, List.length_singleton, hKdd.out] <;> rfl, mp5, mq5, hdis3.out, sn5, hL3g.out, hL4g.out, hep.out, hrq.out, hnd.out, hrg3.out⟩
                  all_goals (simp [intOf] <;> omega)
            · rw [if_neg (fun h => ha h.1)] at hna
              subst n3
              have ha1 : ¬ ((n : Int) + (fl : Int) < 2 * ((K : Int) + 1)) := by omega
              have hb1 : (2 * (K : Int) ≤ (n : Int) + (fl : Int)) := by omega
              clear ha hbb
              by_cases hcc : K = fl
              · rw [if_pos (by omega)] at hnb
                subst n4
                subst hcc
                by_cases hdd : 2 * K ≤ K
                · rw [if_pos (by omega)] at hdq
                  have d1 : (2 * (K : Int) ≤ (K : Int)) := by omega
                  have d2 : (2 * (K : Int) + 1 ≤ (K : Int) + 1) := by omega
                  clear hdd
                  go_wp2_with fail
                  refine (delivered_any mq.out.proc).mono ?_
                  rintro e w4 ⟨A4, n4, c4, rfl, hd4, hb4⟩
                  have e4 := hd4.len
                  rw [hdq] at e4
                  subst e4
                  have mp4 := Lib.hid (mp.out.up hb4)
                  have mq4 := Lib.hid (mq.out.up hb4)
                  have sn4 := Lib.hid (own_upd sn.out hb4)
                  clear hd4 hb4
                  go_wp2_with fail
                  refine (delivered_any mp4.out.proc).mono ?_
                  rintro e w5 ⟨A5, n5, c5, rfl, hd5, hb5⟩
                  have e5 := hd5.len
                  rw [hep.out.2.2.1] at e5
                  subst e5
                  have mp5 := mp4.out.up hb5
                  have mq5 := mq4.out.up hb5
                  have sn5 := own_upd sn4.out hb5
                  clear hd5 hb5
                  go_wp2_with fail
                  go_roundw
                  case rel => exact ⟨i + 1, l ++ [(X : Int)], L3, L4, p3, q3, by omega, by go_num, by rw [List.length_append, List.length_singleton, hKdd.out] <;> rfl, mp5, mq5, hdis3.out, sn5, hL3g.out, hL4g.out, hep.out, hrq.out, hnd.out, hrg3.out⟩
                  all_goals (simp [intOf] <;> omega)
                · rw [if_neg (by omega)] at hdq
                  have d1 : ¬ (2 * (K : Int) ≤ (K : Int)) := by omega
                  have d2 : ¬ (2 * (K : Int) + 1 ≤ (K : Int) + 1) := by omega
                  clear hdd
                  go_wp2_with fail
                  refine (delivered_any mq.out.proc).mono ?_
                  rintro e w4 ⟨A4, n4, c4, rfl, hd4, hb4⟩
                  have e4 := hd4.len
                  rw [hdq] at e4
                  subst e4
                  have mp4 := Lib.hid (mp.out.up hb4)
                  have mq4 := Lib.hid (mq.out.up hb4)
                  have sn4 := Lib.hid (own_upd sn.out hb4)
                  clear hd4 hb4
                  go_wp2_with fail
                  refine (delivered_any mp4.out.proc).mono ?_
                  rintro e w5 ⟨A5, n5, c5, rfl, hd5, hb5⟩
                  have e5 := hd5.len
                  rw [hep.out.2.2.1] at e5
                  subst e5
                  have mp5 := mp4.out.up hb5
                  have mq5 := mq4.out.up hb5
                  have sn5 := own_upd sn4.out hb5
                  clear hd5 hb5
                  go_wp2_with fail
                  go_roundw
                  case rel => exact ⟨i + 1, l ++ [(X : Int)], L3, L4, p3, q3, by omega, by go_num, by rw [List.length_append, List.length_singleton, hKdd.out] <;> rfl, mp5, mq5, hdis3.out, sn5, hL3g.out, hL4g.out, hep.out, hrq.out, hnd.out, hrg3.out⟩
                  all_goals (simp [intOf] <;> omega)
              · rw [if_neg (by omega)] at hnb
                subst n4
                have c1 : ((K : Int) == (fl : Int)) = false := by simp; omega
                have c2 : ((K : Int) + 1 == (fl : Int) + 1) = false := by simp; omega
                have c3 : ¬ (K : Int) = (fl : Int) := by omega
                by_cases hdd : 2 * fl ≤ K
                · rw [if_pos (by omega)] at hdq
                  have d1 : (2 * (fl : Int) ≤ (K : Int)) := by omega
                  have d2 : (2 * (fl : Int) + 1 ≤ (K : Int) + 1) := by omega
                  clear hdd
                  go_wp2_with fail
                  refine (delivered_any mq.out.proc).mono ?_
                  rintro e w4 ⟨A4, n4, c4, rfl, hd4, hb4⟩
                  have e4 := hd4.len
                  rw [hdq] at e4
                  subst e4
                  have mp4 := Lib.hid (mp.out.up hb4)
                  have mq4 := Lib.hid (mq.out.up hb4)
                  have sn4 := Lib.hid (own_upd sn.out hb4)
                  clear hd4 hb4
                  go_wp2_with fail
                  refine (delivered_any mp4.out.proc).mono ?_
                  rintro e w5 ⟨A5, n5, c5, rfl, hd5, hb5⟩
                  have e5 := hd5.len
                  rw [hep.out.2.2.1] at e5
                  subst e5
                  have mp5 := mp4.out.up hb5
                  have mq5 := mq4.out.up hb5
                  have sn5 := own_upd sn4.out hb5
                  clear hd5 hb5
                  go_wp2_with fail
                  go_roundw
                  case rel => exact ⟨i + 1, l ++ [(X : Int)], L3, L4, p3, q3, by omega, by go_num, by rw [List.length_append, List.length_singleton, hKdd.out] <;> rfl, mp5, mq5, hdis3.out, sn5, hL3g.out, hL4g.out, hep.out, hrq.out, hnd.out, hrg3.out⟩
                  all_goals (simp [intOf] <;> omega)
                · rw [if_neg (by omega)] at hdq
                  have d1 : ¬ (2 * (fl : Int) ≤ (K : Int)) := by omega
                  have d2 : ¬ (2 * (fl : Int) + 1 ≤ (K : Int) + 1) := by omega
                  clear hdd
                  go_wp2_with fail
                  refine (delivered_any mq.out.proc).mono ?_
                  rintro e w4 ⟨A4, n4, c4, rfl, hd4, hb4⟩
                  have e4 := hd4.len
                  rw [hdq] at e4
                  subst e4
                  have mp4 := Lib.hid (mp.out.up hb4)
                  have mq4 := Lib.hid (mq.out.up hb4)
                  have sn4 := Lib.hid (own_upd sn.out hb4)
                  clear hd4 hb4
                  go_wp2_with fail
                  refine (delivered_any mp4.out.proc).mono ?_
                  rintro e w5 ⟨A5, n5, c5, rfl, hd5, hb5⟩
                  have e5 := hd5.len
                  rw [hep.out.2.2.1] at e5
                  subst e5
                  have mp5 := mp4.out.up hb5
                  have mq5 := mq4.out.up hb5
                  have sn5 := own_upd sn4.out hb5
                  clear hd5 hb5
                  go_wp2_with fail
                  go_roundw
                  case rel => exact ⟨i + 1, l ++ [(X : Int)], L3, L4, p3, q3, by omega, by go_num, by rw [List.length_append, List.length_singleton, hKdd.out] <;> rfl, mp5, mq5, hdis3.out, sn5, hL3g.out, hL4g.out, hep.out, hrq.out, hnd.out, hrg3.out⟩
                  all_goals (simp [intOf] <;> omega)
          · rw [hin] at hsc
            clear hgc hgf hgset
            go_wp2_with fail
            go_roundw
            case rel => exact ⟨i + 1, l, L1', L2', p, q, by omega, by go_num, rfl, hmpd.out, hmqd.out, hdisd.out, hsnd.out, hg1d.out, hg2d.out, hepd.out, hrqd.out, hndd.out, hrgd.out⟩
            case measure => simp [intOf] <;> omega
    · have hltI : ¬ (i : Int) < (len : Int) := by omega
      go_wp2_with fail
      go_ret
      exact ⟨rfl, hmpd.out.below⟩
set_option maxRecDepth 100000 in
theorem walk_no (w : World) (n : Int) (A A2 : Option Addr) (len c pl pc : Nat) (h : 2000 < pl ∨ n < 1 ∨ 13 < n) :
    Calls Try.prog 7 #[.int .i64 n, .slice A len c, .slice A2 pl pc] w fun e w' => e = .returned (.bool true) ∧ Below w.heap.size w w' := by
  by_cases c1 : 2000 < pl
  · have c1' : (2000 : Int) < (pl : Int) := by omega
    clear h
    go_enter Try.func7, Try.ntmps7
    go_wp2_with fail
    refine (awake_any _).mono ?_
    rintro e w1 ⟨rfl, hb1⟩
    go_wp2_with fail
    go_ret
    exact ⟨rfl, hb1⟩
  · have c1' : ¬ (2000 : Int) < (pl : Int) := by omega
    by_cases c2 : n < 1
    · clear h
      go_enter Try.func7, Try.ntmps7
      go_wp2_with fail
      refine (awake_any _).mono ?_
      rintro e w1 ⟨rfl, hb1⟩
      go_wp2_with fail
      go_ret
      exact ⟨rfl, hb1⟩
    · have c3 : 13 < n := by omega
      clear h
      go_enter Try.func7, Try.ntmps7
      go_wp2_with fail
      refine (awake_any _).mono ?_
      rintro e w1 ⟨rfl, hb1⟩
      go_wp2_with fail
      go_ret
      exact ⟨rfl, hb1⟩
theorem walk (w : World) (n : Int) (_hn : -9223372036854775808 ≤ n ∧ n ≤ 9223372036854775807) {A A2 : Option Addr} {len c pl pc : Nat} {zs : List Int} {s : List UInt8} (hr : Row w (fun _ => True) 1 A len c (zs.map iv)) (hI : I64s zs) (hlen : len ≤ 9223372036854775807)
    (hp : Rd w (fun _ => True) A2 pl pc s) : Calls Try.prog 7 #[.int .i64 n, .slice A len c, .slice A2 pl pc] w fun e w' => e = .returned (.bool true) ∧ Below w.heap.size w w' := by
  by_cases h : 2000 < pl ∨ n < 1 ∨ 13 < n
  · exact walk_no w n A A2 len c pl pc h
  · obtain ⟨N, rfl⟩ : ∃ N : Nat, n = (N : Int) := ⟨n.toNat, by omega⟩
    exact walk_yes w N (by omega) (by omega) hr hI hlen hp (by omega)
theorem contract (H : Type) (enc : TypeId × Value → H) (W : World) (base : Nat) (args : Array Value) (ds gs : List (DataW H)) (before : List MemPlace)
    (hval : ∀ (j : Nat) t v, Try.f7.params[j]? = some t → args[j]? = some v → Value.okWide Try.prog W .any base t v)
    (hW : DataW.Whole enc Try.prog Try.f7.params.toList Rows.brachaThresholdsSpec.vars false W args.toList ds gs before) :
    Calls Try.prog 7 args W fun e W' => ∃ v, e = .returned v ∧ Rows.brachaThresholdsSpec.post enc Try.prog Try.f7 false true false false W args v W' := by
  have hW' := hW
  obtain ⟨p, q, hA0, hV, rfl, hfz, hnd⟩ := hW
  have hA : DataW.TrodAll enc Try.prog W 0 (fun _ => true) true Try.f7.params.toList args.toList ds p := hA0
  rw [Try.params7] at hA hval
  obtain ⟨v0, vs0, d0, ds0, p0, q0, hargs, rfl, rfl, h0, r0⟩ := trodAll_cons hA
  obtain ⟨v1, vs1, d1, ds1, p1, q1, rfl, rfl, rfl, h1, r1⟩ := trodAll_cons r0
  obtain ⟨v2, vs2, d2, ds2, p2, q2, rfl, rfl, rfl, h2, r2⟩ := trodAll_cons r1
  obtain ⟨rfl, rfl, rfl⟩ := trodAll_nil r2
  obtain rfl : args = #[v0, v1, v2] := by cases args; simp_all
  obtain ⟨rfl, rfl⟩ := trodVars_none hV
  obtain ⟨a1, len1, cap1, rfl⟩ := okWide_slice Try.underlying57 (hval 1 57 v1 rfl rfl)
  obtain ⟨a2, len2, cap2, rfl⟩ := okWide_slice Try.underlying33 (hval 2 33 v2 rfl rfl)
  have k0 := h0
  have lt0 : ∀ x ∈ p0, x.block < W.heap.size := by obtain ⟨m, hm⟩ := k0; exact DataW.trod_lt m _ _ _ hm
  obtain ⟨n0, rfl, -, -, z0⟩ := open_int Try.underlying3 (hval 0 3 v0 rfl rfl) h0
  have k1 := h1
  have lt1 : ∀ x ∈ p1, x.block < W.heap.size := by obtain ⟨m, hm⟩ := k1; exact DataW.trod_lt m _ _ _ hm
  obtain ⟨zs1, w1, y1, x1⟩ := ints_of_trod Try.underlying57 Try.underlying3 (by kernel_rfl) h1
  have k2 := h2
  have lt2 : ∀ x ∈ p2, x.block < W.heap.size := by obtain ⟨m, hm⟩ := k2; exact DataW.trod_lt m _ _ _ hm
  obtain ⟨z2, w2⟩ := isRow_of_trod Try.underlying33 Try.underlying5 (by kernel_rfl) h2
  obtain ⟨bs2, hrd2⟩ := rd_of_row w2
  clear hA0
  refine (walk W n0 (bounds_i64 z0) w1 y1 x1 hrd2).mono fun e W' ⟨he, bel⟩ => ?_
  subst he
  exact ⟨_, rfl, _, _, _, [], _, [], hW', trodAll_mk1 (shut_bool Try.underlying4 _), (trodAll_cons_mk (Below.trod laidOut (by kernel_rfl) (of_decide_eq_true (by kernel_rfl)) k0 bel lt0) (trodAll_cons_mk (Below.trod laidOut (by kernel_rfl) (of_decide_eq_true (by kernel_rfl)) k1 bel lt1) (trodAll_cons_mk (Below.trod laidOut (by kernel_rfl) (of_decide_eq_true (by kernel_rfl)) k2 bel lt2) trodAll_mk0))), rfl, bel.frame _, fun h => by cases h⟩
set_option maxRecDepth 100000 in
theorem lifted (os : Os) (started : os.Started) (H : Type) (enc : TypeId × Value → H) :
    ReturnsInHanded {} Try.checked os 7 .any (Rows.brachaThresholdsSpec.pre6 enc Try.prog Try.f7 Rows.brachaThresholdsRow.domain false) (Rows.brachaThresholdsSpec.post enc Try.prog Try.f7 false true false false) := by
  refine returnsInHanded_of_change (C := Try.checked) own started (by kernel_rfl) Try.func7
    (ChangeSpec.witness6 (enc := enc) (C := Try.checked) false ⟨#[], #[.int .i64 0, .slice none 0 0, .slice none 0 0], []⟩ 8 (by kernel_rfl) (by kernel_rfl) (by kernel_rfl) (by kernel_rfl)) ?_
  intro W base args ds gs before hval hW _ _
  exact contract H enc W base args ds gs before hval hW
theorem said : Rows.BrachaThresholdsSaid :=
  OpenClaim.holds_of_wide 7 Try.f7 rfl rfl rfl rfl rfl rfl rfl ⟨rfl, rfl, rfl, rfl, rfl⟩ rfl rfl rfl rfl rfl (by kernel_rfl) Try.func7 (by kernel_rfl)
    (of_decide_eq_true (by kernel_rfl)) (by unfold Func.isWrapper; first | (rw [if_pos (by decide +kernel)]; kernel_rfl) | (rw [if_neg (by decide +kernel)]; exact ⟨rfl, rfl⟩))
    (fun os started H enc _ => lifted os started H enc)
#print axioms said
end Go.Proofs.Ytplijfgjdlghbaa.brachaThresholds

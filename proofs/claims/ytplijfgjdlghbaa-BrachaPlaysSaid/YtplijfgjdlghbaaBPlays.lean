/-
  A process sends and delivers what the rules say.
-/
import Derived.Test.YtplijfgjdlghbaaBTwo
import Derived.Test.YtplijfgjdlghbaaBRefV
namespace Go.Proofs.Ytplijfgjdlghbaa.brachaPlays
open Go.ChangeShapes Go.WideShapes Go.ChangeAt Go.RowKit Go.Pl
theorem recv_few (p : Bra.Proc) (m : Bra.Pkt) : (Bra.recv p m).2.length ≤ p.n := by
  unfold Bra.recv
  split
  · dsimp only
    split
    · rw [Bra.all_length]; exact Nat.le_refl _
    · exact Nat.zero_le _
  · exact Nat.zero_le _
set_option maxRecDepth 100000 in
set_option maxHeartbeats 4000000 in
theorem walk_yes (w : World) (n self : Nat) (h1 : 1 ≤ n) (h2 : n ≤ 7) (h3 : self < n) {A : Option Addr} {len c : Nat} {ms : List Bra.Pkt} (hr : RdP w (fun _ => True) A len c ms) (hq : ∀ m ∈ ms, PktOk m) (hlen : len ≤ 60) :
    Calls Try.prog 3 #[.int .i64 n, .int .i64 self, .slice A len c] w fun e w' => e = .returned (.bool true) ∧ Below w.heap.size w w' := by
  have e1 : ¬ (n : Int) < 1 := by omega
  have e2 : ¬ (7 : Int) < (n : Int) := by omega
  have e3 : ¬ (self : Int) < 0 := by omega
  have e4 : decide ((n : Int) ≤ (self : Int)) = false := decide_eq_false (by omega)
  have e4n : decide (n ≤ self) = false := decide_eq_false (by omega)
  have e5 : ¬ (60 : Int) < (len : Int) := by omega
  have hl := Lib.hid hr.len
  have hrd := Lib.hid (hr.mono (T := fun i => i < w.heap.size) (fun i hi _ => hi))
  have hqd := Lib.hid hq
  clear hr hq
  go_enter Try.func3, Try.ntmps3
  go_wp2_with fail
  refine (awake_any _).mono ?_
  rintro e w1 ⟨rfl, hb1⟩
  go_wp2_with fail
  refine (new_any _ n self h1 (by omega) h3).mono ?_
  rintro e w2 ⟨G, L0, rfl, hp, hl0, hb2'⟩
  have hm0 := Lib.hid (show Mine w w2 L0 G (Bra.start n self) from ⟨hp, hb1.trans (hb2'.mono hb1.size), fun i hi => Nat.le_trans hb1.size (hl0 i hi)⟩)
  clear hl0 hb2' hp hb1
  go_upto_region 11 with fail
  clear e1 e2 e3 e4 e4n e5
  obtain ⟨w3, hw3⟩ : ∃ x, w2.alloc (.cells #[.int .i64 n, .int .i64 self, .int .i64 0, .slice none 0 0, .slice none 0 0] 32) = x := ⟨_, rfl⟩
  have hT0 : Hid (Two w w3 L0 G (Bra.start n self) (fun i => if i = w2.heap.size then .proc else .no) w2.heap.size 0) := by
    have hb3 : Below w2.heap.size w2 w3 := by rw [← hw3]; exact (Below.refl _ _).alloc (Nat.le_refl _) _
    refine ⟨hm0.out.up hb3, ref_start (by omega) hw3, fun i hi => ?_, fun i hi => ?_⟩
    · have := hm0.out.proc.labs i hi
      exact if_neg (by omega)
    · by_cases hx : i = w2.heap.size
      · rw [hx]; exact hm0.out.below.size
      · simp [hx] at hi
  rw [hw3]
  obtain ⟨H, hH⟩ : ∃ H, w2.heap.size = H := ⟨_, rfl⟩
  rw [hH] at hT0 ⊢
  clear hw3 hm0 hH
  go_wp2_with fail
  go_loopw [10] (fun t10 wr => ∃ (i : Nat) (q : Bra.Proc) (L M : Nat → Lab), i ≤ len ∧ t10 = .int .i64 i ∧ Two w wr L G q M H i ∧ q.n ≤ 64) (fun t10 _ => len - (intOf t10).toNat)
  case atStart => exact ⟨0, _, L0, _, by omega, rfl, hT0.out, by show n ≤ 64; omega⟩
  case round =>
    obtain ⟨i, q, L, M, hi, rfl, hT, hqn⟩ := hrel
    have hTd := Lib.hid hT
    have hqn := Lib.hid hqn
    clear hT0 hT
    by_cases hlt : i < len
    · have hltI : (i : Int) < (len : Int) := by omega
      have hil : i < ms.length := by rw [← hl.out]; exact hlt
      obtain ⟨b, off, s, rfl, hbs, -, hs, hg⟩ := hrd.out.get (List.getElem?_eq_getElem hil)
      obtain ⟨m, hm⟩ : ∃ m, ms[i] = m := ⟨_, rfl⟩
      have hok := Lib.hid (hqd.out m (by rw [← hm]; exact List.getElem_mem hil))
      rw [hm] at hs hg
      obtain ⟨Ax, nx, cx, rfl, hrx⟩ := hs
      have hbz := hTd.out.mine.below
      have hgd : ∀ w', AbB w.heap.size wr.drew w' → w'.rangeAt b (off + i * 6) [.int .i64 m.kind, .int .i64 m.src, .int .i64 m.to, .int .i64 m.origin, .int .i64 m.number, .slice Ax nx cx] := fun w' h => rangeAt_up hg (fun j => (Below.cell h (p := ⟨b, j, none⟩) hbs).trans (hbz.cell (p := ⟨b, j, none⟩) hbs))
      have c0 : wr.cell? ⟨b, off + i * 6, none⟩ = some (.int .i64 m.kind) := (hbz.cell (p := ⟨b, off + i * 6, none⟩) hbs).trans (hg 0 _ rfl)
      have hz := Lib.hid hbz.size
      have hpay : Hid (∀ (L' : Nat → Lab) w', Below w.heap.size w w' → (∀ i, L' i ≠ .no → w.heap.size ≤ i) → Rd w' (fun i => L' i = .no) Ax nx cx m.payload) := fun L' w' h hx => (hrx.fr (Fr.of_below (F := fun i => w.heap.size ≤ i) h) (fun i h1 h2 => by omega)).mono (T := fun i => L' i = .no) (fun i _ h1 => Classical.byContradiction (fun hy => by have := hx i hy; omega))
      have hdl : Hid (q.done.length < 1000000) := by show _ < _; have := hTd.out.few; omega
      have howl : Hid (q.own < 1000000) := by show _ < _; have := hTd.out.few; omega
      have hTr : Hid (Two w wr.drew L G q M H i) := hTd.out.up (ab_drew wr)
      clear hg hm hrx hbz hil hTd
      by_cases hk0 : m.kind = 0
      · rw [hk0] at c0
        clear hk0
        have pay : ∀ w', AbB w.heap.size wr.drew w' → w'.cell? ⟨b, off + i * 6 + 5, none⟩ = some (.slice Ax nx cx) := fun w' h => hgd w' h 5 _ rfl
        clear hgd
        go_upto_region 15 with fail
        refine wp_region_late (AbB w.heap.size) (AbB.refl _) (AbB.trans _) [] (.one [0, 1, 2, 3, 4, 7, 8, 9, 10, 11] [5, 12] 6 (.one [] [] 13 (.one [] [] 14 (.last [15] [])))) (by kernel_rfl) (by kernel_rfl) (fun _ _ _ _ _ h => h) ?_
        simp only [wpSchV, ordPick, Option.toList_some, List.cons_append, List.nil_append, List.getElem?_cons_succ, List.getElem?_cons_zero]
        generalize wr.drew = w3 at pay hTr ⊢
        iterate 10 (go_big_quiet_step (exact fun _ => rfl))
        refine wpQuiet_nil ?_
        refine wpq_load_one rfl 33 (.tmp 65) rfl ⟨b, off + i * 6 + 5, none⟩ rfl _ pay _ Try.underlying33 rfl ?_
        simp only [Act.put, List.setIfInBounds_toArray, List.set_cons_succ, List.set_cons_zero]
        refine wpq_load_one rfl 33 (.tmp 72) rfl ⟨b, off + i * 6 + 5, none⟩ rfl _ pay _ Try.underlying33 rfl ?_
        simp only [Act.put, List.setIfInBounds_toArray, List.set_cons_succ, List.set_cons_zero]
        refine wpQuiet_nil ?_
        clear pay c0
        go_wp2_with fail
        refine (bcast_any hTr.out.mine.proc (hpay.out L w3 hTr.out.mine.below hTr.out.mine.labs) hok.out.2.2.2.2.2 howl.out).mono ?_
        rintro e w4 ⟨A1, c1, rfl, hr1, hp1, hf1⟩
        have hmid := Lib.hid (hTr.out.cast hf1 hp1 hr1)
        have hab : AbB w.heap.size w3 w4 := hf1.below (fun i e => by rw [e]; exact hTr.out.mine.labs _ (by rw [hTr.out.mine.proc.lab]; simp)) hTr.out.mine.below.size
        clear hr1 hp1 hf1
        go_wp2_with fail
        refine And.intro (.inr hab) (wpQuiet_nil (wpQuiet_nil ?_))
        clear hab
        go_wp2_with fail
        refine (rbcast_any hmid.out.ref (by omega) (hpay.out M w4 hmid.out.below hmid.out.mlabs) hok.out.2.2.2.2.2).mono ?_
        rintro e w5 ⟨A2, c2, rfl, hr2, hp2, hf2⟩
        have hHl : M H = .proc := by obtain ⟨_, _, _, _, _, _, _, _, h⟩ := hmid.out.ref; exact h.lab
        have hab : AbB w.heap.size w4 w5 := hf2.below (fun i e => by rw [e]; exact hmid.out.mlabs _ (by rw [hHl]; simp)) hmid.out.mine.below.size
        have hend := hmid.out.end_ hp2 (fun _ _ => rfl) (hf2.mono (fun i e => .inl (by rw [e, hHl]; simp)))
        have hsame := Lib.hid (same_yes w5 hend.2 hr2 (by rw [← hr2.len]; have := hqn.out; omega))
        have hT5 := Lib.hid hend.1
        obtain ⟨q1, hq1⟩ : ∃ x, (Bra.bcast q m.payload).1 = x := ⟨_, rfl⟩
        have hqn1 : Hid (q1.n ≤ 64) := by show _ ≤ _; rw [← hq1]; exact hqn.out
        rw [hq1] at hT5
        clear hr2 hp2 hf2 hend hmid hHl hq1
        go_wp2_with fail
        refine And.intro (.inr hab) (wpQuiet_nil (wpQuiet_nil ?_))
        clear hab
        go_wp2_with fail
        refine hsame.out.mono ?_
        rintro e w6 ⟨rfl, hb6⟩
        have hT6 := Lib.hid (hT5.out.up hb6)
        have hab : AbB w.heap.size w5 w6 := hb6.mono hT5.out.mine.below.size
        clear hb6 hsame hT5
        go_wp2_with fail
        refine And.intro (.inr hab) ?_
        dsimp only
        iterate 1 (go_big_quiet_step (exact fun _ => rfl))
        refine wpQuiet_nil (wpQuiet_nil ?_)
        clear hab
        go_upto_region 19 with fail
        obtain ⟨DA, dn, dc, ⟨k0, k1, k2, k3, hB⟩, hde⟩ := hT6.out.ref.dels
        have gd : ∀ w', Ab w6.drew w' → w'.cell? ⟨H, 4, none⟩ = some (.slice DA dn dc) := fun w' h => (Below.cell h (p := ⟨H, 4, none⟩) hB.lt).trans ((hB.cell 4).trans rfl)
        have hde7 : Hid (RdE w6.drew (fun _ => True) DA dn dc q1.done) := hde.fr (Fr.refl (fun _ => False) w6).drew (fun _ _ h => h)
        have hT7 : Hid (Two w w6.drew _ G q1 _ H (i + 1)) := hT6.out.up (ab_drew w6)
        clear hB hde hT6
        refine wp_region_late Ab Ab.refl Ab.trans [] (.one [0, 2, 3, 4] [5] 1 (.one [] [] 6 (.last [7] []))) (by kernel_rfl) (by kernel_rfl) (fun _ _ _ _ _ h => h) ?_
        simp only [wpSchV, ordPick, Option.toList_some, List.cons_append, List.nil_append, List.getElem?_cons_succ, List.getElem?_cons_zero]
        generalize w6.drew = w7 at gd hde7 hT7 ⊢
        iterate 4 (go_big_quiet_step (exact fun _ => rfl))
        refine wpQuiet_nil ?_
        refine wpq_load_one rfl 30 (.tmp 95) rfl ⟨H, 4, none⟩ rfl _ gd _ Try.underlying30 rfl ?_
        simp only [Act.put, List.setIfInBounds_toArray, List.set_cons_succ, List.set_cons_zero]
        refine wpQuiet_nil ?_
        clear gd
        go_wp2_with fail
        refine (delivered_any hT7.out.mine.proc).mono ?_
        rintro e w8 ⟨Ad, nd, cd, rfl, hd8, hb8⟩
        have hT8 := Lib.hid (hT7.out.up hb8)
        have hdn := Lib.hid (done_same w8 hd8 (hde7.out.fr (Fr.of_below (F := fun _ => False) hb8) (fun _ _ h => h)) (by have := hT8.out.few; omega))
        clear hd8 hde7 hT7
        go_wp2_with fail
        refine And.intro (.inr hb8) (wpQuiet_nil (wpQuiet_nil ?_))
        clear hb8
        go_wp2_with fail
        refine hdn.out.mono ?_
        rintro e w9 ⟨rfl, hb9⟩
        have hT9 := Lib.hid (hT8.out.up hb9)
        clear hdn hT8
        go_wp2_with fail
        refine And.intro (.inr hb9) ?_
        dsimp only
        iterate 1 (go_big_quiet_step (exact fun _ => rfl))
        refine wpQuiet_nil (wpQuiet_nil ?_)
        clear hb9
        go_wp2_with fail
        go_roundw
        case rel => exact ⟨i + 1, q1, _, _, by omega, by go_num, hT9.out, hqn1.out⟩
        case measure => simp [intOf]; omega
      · have hkb : (m.kind == 0) = false := by simpa using hk0
        clear hk0
        go_upto_region 17 with fail
        refine wp_region_late (AbB w.heap.size) (AbB.refl _) (AbB.trans _) [] (.one [0, 1, 2, 3, 6, 7, 8, 9] [4, 10] 5 (.one [] [] 11 (.one [] [] 12 (.last [13] [])))) (by kernel_rfl) (by kernel_rfl) (fun _ _ _ _ _ h => h) ?_
        simp only [wpSchV, ordPick, Option.toList_some, List.cons_append, List.nil_append, List.getElem?_cons_succ, List.getElem?_cons_zero]
        generalize wr.drew = w3 at hgd hTr ⊢
        iterate 8 (go_big_quiet_step (exact fun _ => rfl))
        refine wpQuiet_nil ?_
        refine wpq_load_six rfl 35 (.tmp 80) rfl b (off + i * 6) rfl _ _ _ _ _ _ hgd _ Try.underlying35 rfl (by kernel_rfl) ?_
        simp only [Act.put, List.setIfInBounds_toArray, List.set_cons_succ, List.set_cons_zero]
        refine wpq_load_six rfl 35 (.tmp 86) rfl b (off + i * 6) rfl _ _ _ _ _ _ hgd _ Try.underlying35 rfl (by kernel_rfl) ?_
        simp only [Act.put, List.setIfInBounds_toArray, List.set_cons_succ, List.set_cons_zero]
        refine wpQuiet_nil ?_
        clear hgd c0 hkb
        go_wp2_with fail
        refine (recv_any hTr.out.mine.proc m (hpay.out L w3 hTr.out.mine.below hTr.out.mine.labs) hok.out.2.2.2.2.2 hok.out.2.2.2.2.1.2 hdl.out).mono ?_
        intro e w4 hrec
        have hf1 : Fr (fun i => L i ≠ .no) w3 w4 := by obtain ⟨_, _, _, _, _, _, _, _, h⟩ := hrec; exact h
        obtain ⟨L1, A1, n1, c1, rfl, hmid⟩ := hTr.out.recv hrec
        have hmid := Lib.hid hmid
        have hab : AbB w.heap.size w3 w4 := hf1.below (fun i h => hTr.out.mine.labs _ h) hTr.out.mine.below.size
        clear hrec hf1
        go_wp2_with fail
        refine And.intro (.inr hab) (wpQuiet_nil (wpQuiet_nil ?_))
        clear hab
        go_wp2_with fail
        refine (rrecv_any hmid.out.ref (by omega) m (hpay.out M w4 hmid.out.below hmid.out.mlabs) hok.out.2.2.2.2.2).mono ?_
        rintro e w5 ⟨M1, A2, n2, c2, rfl, hp2, hr2, hlm, hf2⟩
        have hab : AbB w.heap.size w4 w5 := hf2.below (fun i h => hmid.out.mlabs _ h) hmid.out.mine.below.size
        have hend := hmid.out.end_ hp2 hlm hf2
        have hsame := Lib.hid (same_yes w5 hend.2 hr2 (by have h1 := recv_few q m; have := hqn.out; omega))
        have hT5 := Lib.hid hend.1
        obtain ⟨q1, hq1⟩ : ∃ x, (Bra.recv q m).1 = x := ⟨_, rfl⟩
        have hqn1 : Hid (q1.n ≤ 64) := by show _ ≤ _; rw [← hq1, (Bra.recv_n q m).1]; exact hqn.out
        rw [hq1] at hT5
        clear hr2 hp2 hf2 hend hmid hq1 hlm
        go_wp2_with fail
        refine And.intro (.inr hab) (wpQuiet_nil (wpQuiet_nil ?_))
        clear hab
        go_wp2_with fail
        refine hsame.out.mono ?_
        rintro e w6 ⟨rfl, hb6⟩
        have hT6 := Lib.hid (hT5.out.up hb6)
        have hab : AbB w.heap.size w5 w6 := hb6.mono hT5.out.mine.below.size
        clear hb6 hsame hT5
        go_wp2_with fail
        refine And.intro (.inr hab) ?_
        dsimp only
        iterate 1 (go_big_quiet_step (exact fun _ => rfl))
        refine wpQuiet_nil (wpQuiet_nil ?_)
        clear hab
        go_upto_region 19 with fail
        obtain ⟨DA, dn, dc, ⟨k0, k1, k2, k3, hB⟩, hde⟩ := hT6.out.ref.dels
        have gd : ∀ w', Ab w6.drew w' → w'.cell? ⟨H, 4, none⟩ = some (.slice DA dn dc) := fun w' h => (Below.cell h (p := ⟨H, 4, none⟩) hB.lt).trans ((hB.cell 4).trans rfl)
        have hde7 : Hid (RdE w6.drew (fun _ => True) DA dn dc q1.done) := hde.fr (Fr.refl (fun _ => False) w6).drew (fun _ _ h => h)
        have hT7 : Hid (Two w w6.drew _ G q1 _ H (i + 1)) := hT6.out.up (ab_drew w6)
        clear hB hde hT6
        refine wp_region_late Ab Ab.refl Ab.trans [] (.one [0, 2, 3, 4] [5] 1 (.one [] [] 6 (.last [7] []))) (by kernel_rfl) (by kernel_rfl) (fun _ _ _ _ _ h => h) ?_
        simp only [wpSchV, ordPick, Option.toList_some, List.cons_append, List.nil_append, List.getElem?_cons_succ, List.getElem?_cons_zero]
        generalize w6.drew = w7 at gd hde7 hT7 ⊢
        iterate 4 (go_big_quiet_step (exact fun _ => rfl))
        refine wpQuiet_nil ?_
        refine wpq_load_one rfl 30 (.tmp 95) rfl ⟨H, 4, none⟩ rfl _ gd _ Try.underlying30 rfl ?_
        simp only [Act.put, List.setIfInBounds_toArray, List.set_cons_succ, List.set_cons_zero]
        refine wpQuiet_nil ?_
        clear gd
        go_wp2_with fail
        refine (delivered_any hT7.out.mine.proc).mono ?_
        rintro e w8 ⟨Ad, nd, cd, rfl, hd8, hb8⟩
        have hT8 := Lib.hid (hT7.out.up hb8)
        have hdn := Lib.hid (done_same w8 hd8 (hde7.out.fr (Fr.of_below (F := fun _ => False) hb8) (fun _ _ h => h)) (by have := hT8.out.few; omega))
        clear hd8 hde7 hT7
        go_wp2_with fail
        refine And.intro (.inr hb8) (wpQuiet_nil (wpQuiet_nil ?_))
        clear hb8
        go_wp2_with fail
        refine hdn.out.mono ?_
        rintro e w9 ⟨rfl, hb9⟩
        have hT9 := Lib.hid (hT8.out.up hb9)
        clear hdn hT8
        go_wp2_with fail
        refine And.intro (.inr hb9) ?_
        dsimp only
        iterate 1 (go_big_quiet_step (exact fun _ => rfl))
        refine wpQuiet_nil (wpQuiet_nil ?_)
        clear hb9
        go_wp2_with fail
        go_roundw
        case rel => exact ⟨i + 1, q1, _, _, by omega, by go_num, hT9.out, hqn1.out⟩
        case measure => simp [intOf]; omega
    · have hltI : ¬ (i : Int) < (len : Int) := by omega
      go_wp2_with fail
      go_ret
      exact ⟨rfl, hTd.out.mine.below⟩
set_option maxRecDepth 100000 in
theorem walk_no (w : World) (n self : Int) (A : Option Addr) (len c : Nat) (h : n < 1 ∨ 7 < n ∨ self < 0 ∨ n ≤ self ∨ 60 < len) :
    Calls Try.prog 3 #[.int .i64 n, .int .i64 self, .slice A len c] w fun e w' => e = .returned (.bool true) ∧ Below w.heap.size w w' := by
  by_cases c1 : n < 1
  · clear h
    go_enter Try.func3, Try.ntmps3
    go_wp2_with fail
    refine (awake_any _).mono ?_
    rintro e w1 ⟨rfl, hb1⟩
    go_wp2_with fail
    go_ret
    exact ⟨rfl, hb1⟩
  · by_cases c2 : 7 < n
    · clear h
      go_enter Try.func3, Try.ntmps3
      go_wp2_with fail
      refine (awake_any _).mono ?_
      rintro e w1 ⟨rfl, hb1⟩
      go_wp2_with fail
      go_ret
      exact ⟨rfl, hb1⟩
    · by_cases c3 : (60 : Int) < (len : Int)
      · clear h
        go_enter Try.func3, Try.ntmps3
        go_wp2_with fail
        refine (awake_any _).mono ?_
        rintro e w1 ⟨rfl, hb1⟩
        go_wp2_with fail
        go_ret
        exact ⟨rfl, hb1⟩
      · by_cases c4 : self < 0
        · clear h
          go_enter Try.func3, Try.ntmps3
          go_wp2_with fail
          refine (awake_any _).mono ?_
          rintro e w1 ⟨rfl, hb1⟩
          go_wp2_with fail
          refine (new_no _ n self (by omega)).mono ?_
          rintro e w2 ⟨rfl, rfl⟩
          go_wp2_with fail
          go_ret
          exact ⟨rfl, hb1⟩
        · have c5 : n ≤ self := by omega
          clear h
          go_enter Try.func3, Try.ntmps3
          go_wp2_with fail
          refine (awake_any _).mono ?_
          rintro e w1 ⟨rfl, hb1⟩
          go_wp2_with fail
          refine (new_no _ n self (by omega)).mono ?_
          rintro e w2 ⟨rfl, rfl⟩
          go_wp2_with fail
          go_ret
          exact ⟨rfl, hb1⟩
theorem walk (w : World) (n : Int) (_hn : -9223372036854775808 ≤ n ∧ n ≤ 9223372036854775807) (self : Int) (_hs : -9223372036854775808 ≤ self ∧ self ≤ 9223372036854775807) {A : Option Addr} {len c : Nat} {ms : List Bra.Pkt} (hr : RdP w (fun _ => True) A len c ms) (hq : ∀ m ∈ ms, PktOk m) :
    Calls Try.prog 3 #[.int .i64 n, .int .i64 self, .slice A len c] w fun e w' => e = .returned (.bool true) ∧ Below w.heap.size w w' := by
  by_cases h : n < 1 ∨ 7 < n ∨ self < 0 ∨ n ≤ self ∨ 60 < len
  · exact walk_no w n self A len c h
  · obtain ⟨N, rfl⟩ : ∃ N : Nat, n = (N : Int) := ⟨n.toNat, by omega⟩
    obtain ⟨S, rfl⟩ : ∃ S : Nat, self = (S : Int) := ⟨self.toNat, by omega⟩
    exact walk_yes w N S (by omega) (by omega) (by omega) hr hq (by omega)
theorem contract (H : Type) (enc : TypeId × Value → H) (W : World) (base : Nat) (args : Array Value) (ds gs : List (DataW H)) (before : List MemPlace)
    (hval : ∀ (j : Nat) t v, Try.f3.params[j]? = some t → args[j]? = some v → Value.okWide Try.prog W .any base t v)
    (hW : DataW.Whole enc Try.prog Try.f3.params.toList Rows.brachaPlaysSpec.vars false W args.toList ds gs before) (hsz : (DataW.weightsEach Try.prog (Try.f3.params.toList ++ Rows.brachaPlaysSpec.plain.varTypes Try.prog) (ds ++ gs)).all (· ≤ reachBytes) = true) :
    Calls Try.prog 3 args W fun e W' => ∃ v, e = .returned v ∧ Rows.brachaPlaysSpec.post enc Try.prog Try.f3 false true false false W args v W' := by
  have hW' := hW
  obtain ⟨p, q, hA0, hV, rfl, hfz, hnd⟩ := hW
  have hA : DataW.TrodAll enc Try.prog W 0 (fun _ => true) true Try.f3.params.toList args.toList ds p := hA0
  rw [Try.params3] at hA hval hsz
  obtain ⟨v0, vs0, d0, ds0, p0, q0, hargs, rfl, rfl, h0, r0⟩ := trodAll_cons hA
  obtain ⟨v1, vs1, d1, ds1, p1, q1, rfl, rfl, rfl, h1, r1⟩ := trodAll_cons r0
  obtain ⟨v2, vs2, d2, ds2, p2, q2, rfl, rfl, rfl, h2, r2⟩ := trodAll_cons r1
  obtain ⟨rfl, rfl, rfl⟩ := trodAll_nil r2
  obtain rfl : args = #[v0, v1, v2] := by cases args; simp_all
  obtain ⟨rfl, rfl⟩ := trodVars_none hV
  obtain ⟨a2, len2, cap2, rfl⟩ := okWide_slice Try.underlying22 (hval 2 22 v2 rfl rfl)
  have k0 := h0
  have lt0 : ∀ x ∈ p0, x.block < W.heap.size := by obtain ⟨m, hm⟩ := k0; exact DataW.trod_lt m _ _ _ hm
  obtain ⟨n0, rfl, -, -, z0⟩ := open_int Try.underlying3 (hval 0 3 v0 rfl rfl) h0
  have k1 := h1
  have lt1 : ∀ x ∈ p1, x.block < W.heap.size := by obtain ⟨m, hm⟩ := k1; exact DataW.trod_lt m _ _ _ hm
  obtain ⟨n1, rfl, -, -, z1⟩ := open_int Try.underlying3 (hval 1 3 v1 rfl rfl) h1
  have k2 := h2
  have lt2 : ∀ x ∈ p2, x.block < W.heap.size := by obtain ⟨m, hm⟩ := k2; exact DataW.trod_lt m _ _ _ hm
  obtain ⟨ms2, hrp2, hqp2⟩ := pkts_of_trod Try.underlying22 Try.underlying35 (by kernel_rfl) rfl rfl rfl rfl rfl rfl rfl rfl rfl rfl rfl rfl rfl rfl rfl rfl rfl rfl rfl Try.underlying3 (by kernel_rfl) (by kernel_rfl) Try.underlying33 Try.underlying5 (by kernel_rfl) (by kernel_rfl) h2 (fun k hk => of_decide_eq_true (List.all_eq_true.1 hsz _ (DataW.weights_mem_each (j := 2) rfl rfl k hk)))
  clear hA0
  refine (walk W n0 (bounds_i64 z0) n1 (bounds_i64 z1) hrp2 hqp2).mono fun e W' ⟨he, bel⟩ => ?_
  subst he
  exact ⟨_, rfl, _, _, _, [], _, [], hW', trodAll_mk1 (shut_bool Try.underlying4 _), (trodAll_cons_mk (Below.trod laidOut (by kernel_rfl) (of_decide_eq_true (by kernel_rfl)) k0 bel lt0) (trodAll_cons_mk (Below.trod laidOut (by kernel_rfl) (of_decide_eq_true (by kernel_rfl)) k1 bel lt1) (trodAll_cons_mk (Below.trod laidOut (by kernel_rfl) (of_decide_eq_true (by kernel_rfl)) k2 bel lt2) trodAll_mk0))), rfl, bel.frame _, fun h => by cases h⟩
set_option maxRecDepth 100000 in
theorem lifted (os : Os) (started : os.Started) (H : Type) (enc : TypeId × Value → H) :
    ReturnsInHanded {} Try.checked os 3 .any (Rows.brachaPlaysSpec.pre6 enc Try.prog Try.f3 Rows.brachaPlaysRow.domain false) (Rows.brachaPlaysSpec.post enc Try.prog Try.f3 false true false false) := by
  refine returnsInHanded_of_change_sized (C := Try.checked) own started (by kernel_rfl) Try.func3
    (ChangeSpec.witness6 (enc := enc) (C := Try.checked) false ⟨#[], #[.int .i64 0, .int .i64 0, .slice none 0 0], []⟩ 8 (by kernel_rfl) (by kernel_rfl) (by kernel_rfl) (by kernel_rfl)) ?_
  intro W base args ds gs before hval hW _ hsz _
  exact contract H enc W base args ds gs before hval hW hsz
theorem said : Rows.BrachaPlaysSaid :=
  OpenClaim.holds_of_wide 3 Try.f3 rfl rfl rfl rfl rfl rfl rfl ⟨rfl, rfl, rfl, rfl, rfl⟩ rfl rfl rfl rfl rfl (by kernel_rfl) Try.func3 (by kernel_rfl)
    (of_decide_eq_true (by kernel_rfl)) (by unfold Func.isWrapper; first | (rw [if_pos (by decide +kernel)]; kernel_rfl) | (rw [if_neg (by decide +kernel)]; exact ⟨rfl, rfl⟩))
    (fun os started H enc _ => lifted os started H enc)
#print axioms said
end Go.Proofs.Ytplijfgjdlghbaa.brachaPlays

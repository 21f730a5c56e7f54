/-
  Messages put among the pending ones.
-/
import Derived.Test.YtplijfgjdlghbaaBGrp
import Derived.Test.YtplijfgjdlghbaaBSame
import Derived.Test.YtplijfgjdlghbaaOrdV
import Derived.Deep.QuietTactic
import Derived.Handy
namespace Go.Proofs.Ytplijfgjdlghbaa
open Go.RowKit Go.Pl
theorem ne_nil_proc (w : World) (a : Option Addr) : (binOp .neq 24 (.pointer a) (.pointer none)).run Try.prog w = .ok (.bool a.isSome) w := by
  cases a <;> kernel_rfl
/-- Where the process that a message goes to stands. -/
theorem GrpIn.ask {w : World} {K : Nat → GL} {g : Nat} {s : Bra.Grp} {Lb : Nat → Nat → Lab} {Gs : Nat → Nat} {AA : Option Addr} {an ac : Nat} {av : List Value} {PA : Option Addr} {pn pc : Nat} {pv : List Value} {CA : Option Addr} {cn cc : Nat} {cv : List Value}
    (h : GrpIn w K g s Lb Gs AA an ac av PA pn pc pv CA cn cc cv) (t : Int) :
    (t < 0 ∧ s.at_ t = none) ∨ ((an : Int) ≤ t ∧ 0 ≤ t ∧ s.at_ t = none) ∨
    ∃ (k b : Nat), t = (k : Int) ∧ k < an ∧ AA = some ⟨b, 0, none⟩ ∧ b < w.heap.size ∧ ((s.at_ t = none ∧ s.all[k]? = some none ∧ w.cell? ⟨b, k, none⟩ = some (.pointer none)) ∨ ∃ p, s.at_ t = some p ∧ s.all[k]? = some (some p) ∧ w.cell? ⟨b, k, none⟩ = some (.pointer (some ⟨Gs k, 0, none⟩))) := by
  have hal := h.anLen
  by_cases h0 : t < 0
  · exact .inl ⟨h0, Bra.at_no (.inl (by omega))⟩
  · by_cases h1 : (an : Int) ≤ t
    · exact .inr (.inl ⟨h1, by omega, Bra.at_no (.inr (.inl (by omega)))⟩)
    · obtain ⟨k, rfl⟩ : ∃ k : Nat, t = (k : Int) := ⟨t.toNat, by omega⟩
      have hk : k < an := by omega
      obtain ⟨b, q, hA, -, hb, hat⟩ := (own_row h.arow).at_ (by omega)
      have hq : q = 0 := by
        rcases h.arow.2 with ⟨he, _⟩ | ⟨g', cap, cur, he, _⟩
        · cases he; cases hA
        · cases he; cases hA; rfl
      subst hq
      refine .inr (.inr ⟨k, b, rfl, hk, hA, hb, ?_⟩)
      have hc := hat k (by omega)
      rw [Nat.zero_add] at hc
      obtain ⟨o, ho⟩ : ∃ o, s.all[k]? = some o := ⟨_, List.getElem?_eq_getElem (by omega)⟩
      rw [h.aat k o ho] at hc
      cases o with
      | none => exact .inl ⟨Bra.at_no (.inr (.inr (by simpa using ho))), ho, hc⟩
      | some p => exact .inr ⟨p, Bra.at_of (by omega) (by simpa using ho), ho, hc⟩
set_option maxRecDepth 100000 in
set_option maxHeartbeats 4000000 in
theorem send_any {w : World} {K : Nat → GL} {g : Nat} {s : Bra.Grp} (h : GrpAt w K g s) {A : Option Addr} {n c : Nat} {l : List Bra.Pkt} (hr : RdP w (fun i => K i = .no) A n c l) (hpl : s.pending.length + l.length ≤ 1000000) (hal : s.all.length ≤ 1000) :
    Calls Try.prog 23 #[.pointer (some ⟨g, 0, none⟩), .slice A n c] w fun e w' => e = .returned undef ∧ ∃ K', GrpAt w' K' g (s.send l) ∧ Went w K w' K' := by
  obtain rfl : n = l.length := hr.len
  obtain ⟨N, hN⟩ : ∃ N, l.length = N := ⟨_, rfl⟩
  rw [hN] at hr hpl ⊢
  have hNd := Lib.hid hN
  have hrd := Lib.hid (hr.mono (T := fun i => K i = .no ∧ i < w.heap.size) (fun i hi hk => ⟨hk, hi⟩))
  have hpld := Lib.hid hpl
  have hald := Lib.hid hal
  have hNn : N ≤ 1000000 := by omega
  have hh := Lib.hid h
  clear hN hr hpl hal h
  go_enter Try.func23, Try.ntmps23
  go_wp2_with fail
  go_loopw [4] (fun t4 wr => ∃ (i : Nat) (K' : Nat → GL), i ≤ N ∧ t4 = .int .i64 i ∧ GrpAt wr K' g (s.send (l.take i)) ∧ Went w K wr K') (fun t4 _ => N - (intOf t4).toNat)
  case atStart => exact ⟨0, K, by omega, rfl, by rw [List.take_zero, Bra.send_nil]; exact hh.out, Went.refl _ _⟩
  case round =>
    obtain ⟨i, K1, hi, rfl, hg, hw⟩ := hrel
    clear hh
    have hwd := Lib.hid hw
    by_cases hlt : i < N
    · have hltI : (i : Int) < (N : Int) := by omega
      have hil : i < l.length := by rw [hNd.out]; exact hlt
      obtain ⟨b, off, sv, rfl, hKb, hbs, hs, hgt⟩ := (hrd.out.fr hw.2 (fun i hi hx => hx.1 hi.1)).get (List.getElem?_eq_getElem hil)
      obtain ⟨m, hm⟩ : ∃ m, l[i] = m := ⟨_, rfl⟩
      rw [hm] at hs hgt
      have htk : Hid (l.take (i + 1) = l.take i ++ [m]) := by show _ = _; rw [← hm, List.take_append_getElem hil]
      have hplen : Hid ((s.send (l.take i)).pending.length ≤ 1000000) := by
        show _ ≤ _
        have h1 := List.length_filter_le s.goes (l.take i)
        have h2 := hpld.out
        have h3 : (l.take i).length ≤ i := by rw [List.length_take]; omega
        simp only [Bra.Grp.send, List.length_append]; omega
      have hallen : Hid ((s.send (l.take i)).all.length ≤ 1000) := hald.out
      have hgo : Hid (∀ r, s.at_ m.to = r → s.send (l.take (i + 1)) = if r.isSome then { s.send (l.take i) with pending := (s.send (l.take i)).pending ++ [m] } else s.send (l.take i)) := fun r hr => by
        rw [htk.out, Bra.send_snoc, Bra.Grp.goes, hr]
      have hsat : Hid ((s.send (l.take i)).at_ m.to = s.at_ m.to) := rfl
      obtain ⟨s1, hs1⟩ : ∃ x, s.send (l.take i) = x := ⟨_, rfl⟩
      rw [hs1] at hg hplen hallen hgo hsat
      have hs1d := Lib.hid hs1
      have hs1' : SlIs wr (fun i => K1 i = .no) sv m.payload := hs.mono (fun x _ hk => (hw.1 x hk.2).trans hk.1)
      obtain ⟨Lb, Gs, AA, an, ac, av, PA, pn, pc, pv, CA, cn, cc, cv, hG⟩ := hg
      have hGd := Lib.hid hG
      have g0 : wr.cell? ⟨g, 0, none⟩ = some (.slice AA an ac) := (hG.blk.cell 0).trans rfl
      have m2 : wr.cell? ⟨b, off + i * 6 + 2, none⟩ = some (.int .i64 m.to) := hgt 2 _ rfl
      have hanl : an ≤ 1000 := by rw [hG.anLen]; exact hallen.out
      have hask := hG.ask m.to
      have hgtd := Lib.hid hgt
      have hsd := Lib.hid hs1'
      have hbsd := Lib.hid hbs
      have hup : Hid (∀ w', Below wr.heap.size wr w' → Went w K w' K1) := fun w' hb => hwd.out.up hb
      clear hs1 hs hs1' hgt hbs hm hil hw hKb hG
      rcases hask with ⟨h1, h2⟩ | ⟨h1, h0, h2⟩ | ⟨k, ab, htk2, hk, rfl, hab, hcase⟩
      · have hto : decide (0 ≤ m.to) = false := decide_eq_false (by omega)
        have hgo1 := Lib.hid (hgo.out none (by rw [← hsat.out]; exact h2))
        clear h1 h2
        go_wp2_with fail
        go_quiet (fail)
        go_wp2_with fail
        go_roundw
        case rel => exact ⟨i + 1, K1, by omega, by go_num, by rw [hgo1.out]; exact (hGd.out.upTo ((Fr.refl (fun _ => False) _).drewN _ |>.below (fun _ h => h.elim) (Nat.le_refl _))).at_, hup.out _ ((Fr.refl (fun _ => False) _).drewN _ |>.below (fun _ h => h.elim) (Nat.le_refl _))⟩
        case measure => simp [intOf]; omega
      · have hto : decide (0 ≤ m.to) = true := decide_eq_true h0
        have hto2 : decide (m.to < (an : Int)) = false := decide_eq_false (by omega)
        have hgo1 := Lib.hid (hgo.out none (by rw [← hsat.out]; exact h2))
        clear h1 h2 h0
        go_wp2_with fail
        go_quiet (fail)
        go_wp2_with fail
        go_roundw
        case rel => exact ⟨i + 1, K1, by omega, by go_num, by rw [hgo1.out]; exact (hGd.out.upTo ((Fr.refl (fun _ => False) _).drewN _ |>.below (fun _ h => h.elim) (Nat.le_refl _))).at_, hup.out _ ((Fr.refl (fun _ => False) _).drewN _ |>.below (fun _ h => h.elim) (Nat.le_refl _))⟩
        case measure => simp [intOf]; omega
      · rw [htk2] at m2
        have htk2d := Lib.hid htk2
        clear htk2
        have hkI : (k : Int) < (an : Int) := by omega
        have hne := @ne_nil_proc
        rcases hcase with ⟨h2, -, hc⟩ | ⟨p, h2, -, hc⟩
        · have hgo1 := Lib.hid (hgo.out none (by rw [← hsat.out]; exact h2))
          clear h2
          go_wp2_with fail
          go_quiet (fail)
          go_wp2_with fail
          go_roundw
          case rel => exact ⟨i + 1, K1, by omega, by go_num, by rw [hgo1.out]; exact (hGd.out.upTo ((Fr.refl (fun _ => False) _).drewN _ |>.below (fun _ h => h.elim) (Nat.le_refl _))).at_, hup.out _ ((Fr.refl (fun _ => False) _).drewN _ |>.below (fun _ h => h.elim) (Nat.le_refl _))⟩
          case measure => simp [intOf]; omega
        · have hgo1 := Lib.hid (hgo.out (some p) (by rw [← hsat.out]; exact h2))
          clear h2
          go_wp2_with fail
          go_quiet (fail)
          go_upto_region 4 with fail
          obtain ⟨wq, hwq⟩ : ∃ x, wr.drewN nq = x := ⟨_, rfl⟩
          have hbq : Below wr.heap.size wr wq.drew := by rw [← hwq]; exact (((Fr.refl (fun _ => False) wr).drewN nq).drew).below (fun _ h => h.elim) (Nat.le_refl _)
          rw [hwq]
          have hGe : Hid (GrpIn wq.drew K1 g s1 Lb Gs (some ⟨ab, 0, none⟩) an ac av PA pn pc pv CA cn cc cv) := hGd.out.upTo hbq
          have gp : ∀ w', Ab wq.drew w' → w'.cell? ⟨g, 1, none⟩ = some (.slice PA pn pc) := fun w' h => (Below.cell h (p := ⟨g, 1, none⟩) hGe.out.blk.lt).trans ((hGe.out.blk.cell 1).trans rfl)
          have mg : ∀ w', Ab wq.drew w' → w'.rangeAt b (off + i * 6) [.int .i64 m.kind, .int .i64 m.src, .int .i64 m.to, .int .i64 m.origin, .int .i64 m.number, sv] := fun w' h => rangeAt_up hgtd.out (fun j => (Below.cell h (p := ⟨b, j, none⟩) (Nat.lt_of_lt_of_le hbsd.out hbq.size)).trans (hbq.cell (p := ⟨b, j, none⟩) hbsd.out))
          have hse : Hid (SlIs wq.drew (fun i => K1 i = .no) sv m.payload) := hsd.out.fr (Fr.of_below (F := fun _ => False) hbq) (fun _ _ h => h)
          have hupq : Hid (Went w K wq.drew K1) := hup.out _ hbq
          have hpn : pn ≤ 1000000 := by rw [hGe.out.pnLen]; exact hplen.out
          have h1v : ∀ u ∈ pkv m sv, u.oneCell' = true := by
            obtain ⟨_, _, _, rfl, _⟩ := hse.out
            intro u hu
            simp only [pkv, List.mem_cons, List.not_mem_nil, or_false] at hu
            rcases hu with rfl | rfl | rfl | rfl | rfl | rfl <;> rfl
          have h1d := Lib.hid h1v
          clear hbq hwq hGd g0 m2 hgtd hbsd hsd hup hc h1v hab
          refine wp_region_late Ab Ab.refl Ab.trans [10, 13] (.one [0, 1, 2, 3, 5, 6, 7] [4, 8] 9 (.one [] [] 10 (.one [11, 12] [] 13 (.last [] [])))) (by kernel_rfl) (by kernel_rfl) (fun _ _ _ _ _ h => h) ?_
          simp only [wpSchV, ordPick, Option.toList_some, List.cons_append, List.nil_append, List.getElem?_cons_succ, List.getElem?_cons_zero]
          generalize wq.drew = wd at gp mg hGe hse hupq ⊢
          iterate 7 (go_big_quiet_step (exact fun _ => rfl))
          refine wpQuiet_nil ?_
          refine wpq_load_one rfl 22 (.tmp 47) rfl ⟨g, 1, none⟩ rfl _ gp _ Try.underlying22 rfl ?_
          simp only [Act.put, List.setIfInBounds_toArray, List.set_cons_succ, List.set_cons_zero]
          refine wpq_load_six rfl 35 (.tmp 51) rfl b (off + i * 6) rfl _ _ _ _ _ _ mg _ Try.underlying35 rfl (by kernel_rfl) ?_
          simp only [Act.put, List.setIfInBounds_toArray, List.set_cons_succ, List.set_cons_zero]
          refine wpQuiet_nil ?_
          clear gp mg
          go_wp2_with fail
          have ro : OwnO (wd.alloc (.cells #[.int .i64 m.kind, .int .i64 m.src, .int .i64 m.to, .int .i64 m.origin, .int .i64 m.number, sv] 35)) 35 6 PA pn pc pv := hGe.out.prow.fr ((Fr.refl (fun _ => False) wd).alloc _) (fun _ _ h => h)
          have r1 := Row.new (n := 1) (sz := 6) wd 35 #[.int .i64 m.kind, .int .i64 m.src, .int .i64 m.to, .int .i64 m.origin, .int .i64 m.number, sv] (pkv m sv) rfl rfl (by decide)
          have a1 : Ab wd (wd.alloc (.cells #[.int .i64 m.kind, .int .i64 m.src, .int .i64 m.to, .int .i64 m.origin, .int .i64 m.number, sv] 35)) := (Below.refl _ _).alloc (Nat.le_refl _) _
          refine And.intro (.inr a1) (wpQuiet_nil (wpQuiet_nil ?_))
          obtain ⟨w1, hw1⟩ : ∃ x, wd.alloc (.cells #[.int .i64 m.kind, .int .i64 m.src, .int .i64 m.to, .int .i64 m.origin, .int .i64 m.number, sv] 35) = x := ⟨_, rfl⟩
          rw [hw1] at ro r1 a1 ⊢
          clear hw1
          go_wp2_with (at_builtin; refine wpl_appo rfl (.tmp 48) (.tmp 53) 22 rfl 35 _ 6 64 Try.underlying22 infoPkt rfl (by decide) (by decide) PA pn pc rfl pv ro _ _ 1 1 rfl _ r1 (by decide) h1d.out (by omega) (pn + 1) rfl ?h2)
          case h2 =>
            intro A2 c2 w2 ho2 hg2 hz2
            have f2 : Hid (Fr (fun i => (Value.slice PA pn pc).ownBlock = some i) wd w2) := ((Fr.of_below (F := fun _ => False) a1).mono (F := fun i => (Value.slice PA pn pc).ownBlock = some i) (fun _ h => h.elim)).grown hg2 (fun k e => .inl e)
            have hgb := hGe.out.blk.fr f2.out (fun e => by have h1 := hGe.out.plab g e; rw [hGe.out.lab] at h1; cases h1)
            have c1 : w2.cell? ⟨g, 1, none⟩ = some (.slice PA pn pc) := (hgb.cell 1).trans rfl
            have fz := hgb.frozen 1
            have a1d := Lib.hid a1
            have ho2d := Lib.hid ho2
            have hg2d := Lib.hid hg2
            have hz2d := Lib.hid hz2
            clear ro r1 ho2 hg2 hz2 hgb a1
            go_wp2_with fail
            refine And.intro (.inl rfl) ?_
            dsimp only
            iterate 2 (go_big_quiet_step (exact fun _ => rfl))
            refine wpQuiet_nil (wpQuiet_nil ?_)
            go_wp2_with fail
            refine And.intro (.inl rfl) (wpQuiet_nil (wpQuiet_nil ?_))
            go_wp2_with fail
            go_roundw
            case rel =>
              obtain ⟨K', q1, q2⟩ := hGe.out.push a1d.out hg2d.out ho2d.out hz2d.out rfl hse.out
              exact ⟨i + 1, K', by omega, by go_num, by rw [hgo1.out]; exact q1, hupq.out.trans q2⟩
            case measure => simp [intOf]; omega
    · have hltI : ¬ (i : Int) < (N : Int) := by omega
      go_wp2_with fail
      go_returns
      refine ⟨rfl, K1, ?_, hwd.out⟩
      rw [show l = l.take i by rw [List.take_of_length_le]; rw [hNd.out]; omega]
      exact hg
end Go.Proofs.Ytplijfgjdlghbaa

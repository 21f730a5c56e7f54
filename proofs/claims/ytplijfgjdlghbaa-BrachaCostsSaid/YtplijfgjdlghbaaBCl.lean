/-
  The two closures of Receive: how many votes have the payload; a vote recorded once.
-/
import Derived.Test.YtplijfgjdlghbaaBAll
import Derived.Maps.RangeWalk
namespace Go.Pl
open Go.RowKit
theorem Rd.unique {w : World} {S S' : Nat → Prop} {A : Option Addr} {n c : Nat} {a b : List UInt8} (h : Rd w S A n c a) (h' : Rd w S' A n c b) : a = b := by
  have h1 := h.len
  have h2 := h'.len
  refine List.ext_getElem (by omega) fun i hi hi' => ?_
  obtain ⟨g, o, rfl, _, _, hc⟩ := h.at_ (by omega)
  obtain ⟨g', o', hA, _, _, hc'⟩ := h'.at_ (by omega)
  cases hA
  have e := (hc i (by omega)).symm.trans (hc' i (by omega))
  have e1 : a.getD i 0 = a[i] := by simp [hi]
  have e2 : b.getD i 0 = b[i] := by simp [hi']
  rw [e1, e2] at e
  have e3 : ((a[i].toNat : Nat) : Int) = (b[i].toNat : Nat) := by simpa using e
  exact UInt8.toNat_inj.1 (by omega)
theorem SlIs.unique {w : World} {S S' : Nat → Prop} {v : Value} {a b : List UInt8} (h : SlIs w S v a) (h' : SlIs w S' v b) : a = b := by
  obtain ⟨A, n, c, rfl, r⟩ := h
  obtain ⟨A', n', c', e, r'⟩ := h'
  cases e
  exact r.unique r'
open Classical in
/-- The bytes that a slice reads as. -/
noncomputable def bytesIn (w : World) (S : Nat → Prop) (v : Value) : List UInt8 := if h : ∃ bs, SlIs w S v bs then h.choose else []
theorem bytesIn_is {w : World} {S : Nat → Prop} {v : Value} {bs : List UInt8} (h : SlIs w S v bs) : bytesIn w S v = bs := by
  have hx : ∃ bs, SlIs w S v bs := ⟨bs, h⟩
  unfold bytesIn
  rw [dif_pos hx]
  exact hx.choose_spec.unique h
theorem VotesIs.count {w : World} {S : Nat → Prop} (bs : List UInt8) : ∀ {v : Bra.Votes} {l : List (Value × Value)}, VotesIs w S v l → l.countP (fun p => bytesIn w S p.2 == bs) = Bra.count v bs
  | [], _, h => by cases h; rfl
  | x :: r, _, ⟨s, l', h1, h0, h2, h3⟩ => by
    have ih := h3.count bs
    rw [h1, List.countP_cons, ih, bytesIn_is h2]
    unfold Bra.count
    rw [List.filter_cons]
    split <;> simp
end Go.Pl
namespace Go.Proofs.Ytplijfgjdlghbaa
open Go.RowKit Go.Pl
set_option maxRecDepth 100000 in
set_option maxHeartbeats 1000000 in
theorem count_any {w : World} {b X n c : Nat} {A : Option Addr} {S : Nat → Prop} {v : Bra.Votes} {l : List (Value × Value)} {bs : List UInt8} (hm : MapIs w b l) (hv : VotesIs w S v l) (hX : w.cell? ⟨X, 5, none⟩ = some (.slice A n c)) (hr : Rd w (fun _ => True) A n c bs) (hle : v.length ≤ 1000) :
    Calls Try.prog 32 #[.map (some b), .pointer (some ⟨X, 0, none⟩)] w fun e w' => e = .returned (.int .i64 (Bra.count v bs)) ∧ Below w.heap.size w w' := by
  have hXl := Lib.hid (World.block_lt_of_cell? w _ hX)
  have hR : Hid (Rd w (fun i => i < w.heap.size) A n c bs) := hr.mono (fun i hi _ => hi)
  have hv' := hv.mono (T := fun i => i < w.heap.size) (fun i hi _ => hi)
  have hc := hv'.count bs
  have hmem := Lib.hid hv'.mem
  have hle' : Bra.count v bs ≤ 1000 := Nat.le_trans (Bra.count_le _ _) hle
  rw [← hc] at hle' ⊢
  obtain ⟨f, hf⟩ : ∃ f : Value × Value → Bool, (fun p => bytesIn w (fun i => i < w.heap.size) p.2 == bs) = f := ⟨_, rfl⟩
  have hf' := Lib.hid hf
  rw [hf] at hle' ⊢
  have hm' := Lib.hid hm
  have hX' := Lib.hid hX
  clear hv hv' hc hr hX hf hm
  go_enter Try.func32, Try.ntmps32
  go_wp2_with (at_range; refine wpl_range rfl (.tmp 7) 77 rfl 3 33 Try.underlying77 rfl hm'.out ?_; intro w1 hit1 hg1 hs1)
  have hb1 : Below w.heap.size w w1 := (Below.refl _ _).grown hg1 (Nat.le_refl _) (by intro k hk; cases hk)
  clear hg1 hs1
  go_loopw [4] (fun t4 wr => ∃ (k : Nat) (todo : List (Value × Value)), t4 = .int .i64 k ∧ k + todo.countP f = l.countP f ∧ IterIs wr b w.heap.size l todo ∧ Below w.heap.size w wr) (fun _ wr => wr.rangeLeft b w.heap.size)
  case atStart => exact ⟨0, l, rfl, by omega, hit1, hb1⟩
  case round =>
    obtain ⟨k, todo, rfl, hk, hit, hb⟩ := hrel
    have hit' := Lib.hid hit
    clear hit1 hb1 hit
    go_wp2_with (at_next; refine wpl_next rfl (.tmp 8) rfl rfl hit'.out ?hd ?hm)
    case hd =>
      intro hd
      have hk' : Hid (k = l.countP f) := by show _ = _; rw [hd] at hk; simpa using hk
      clear hd hk
      go_wp2_with fail
      go_ret
      exact ⟨by rw [← hk'.out]; rfl, hb⟩
    case hm =>
      intro key val rest' w2 hp hin hit2 hg2 hs2 hen
      obtain ⟨bs', hsl⟩ := hmem.out _ hin
      obtain ⟨Av, nv, cv, hval, hrv⟩ := hsl
      have hval' : val = .slice Av nv cv := hval
      subst hval'
      have hb2 : Below w.heap.size w w2 := hb.grown hg2 hb.size (by intro k hk; cases hk; exact Nat.le_refl _)
      have hcnt := hp.countP_eq f
      rw [List.countP_cons] at hcnt
      have hfe : Hid (f (key, .slice Av nv cv) = (bs' == bs)) := by
        show _ = _
        rw [← hf'.out]
        show (bytesIn _ _ _ == bs) = _
        rw [bytesIn_is ⟨_, _, _, rfl, hrv⟩]
      rw [hfe.out] at hcnt
      have hX2 : w2.cell? ⟨X, 5, none⟩ = some (.slice A n c) := (hb2.cell (p := ⟨X, 5, none⟩) hXl.out).trans hX'.out
      have r1 := hrv.fr (Fr.of_below (F := fun i => w.heap.size ≤ i) hb2) (fun i h => by omega)
      have r2 := hR.out.fr (Fr.of_below (F := fun i => w.heap.size ≤ i) hb2) (fun i h => by omega)
      have hlen : Hid (rest'.length < todo.length) := by show _ < _; have := hp.length_eq; simp at this; omega
      have hL : Hid (wr.rangeLeft b w.heap.size = todo.length) := hit'.out.left_eq
      have hL2 : Hid (w2.rangeLeft b w.heap.size = rest'.length) := hit2.left_eq
      clear hp hin hg2 hs2 hfe hit' hval hb
      have hcnt' := Lib.hid hcnt
      have hkk := Lib.hid hk
      clear hcnt hk
      go_wp2_with fail
      refine (bequal_any _ r1 r2).mono ?_
      rintro e w3 ⟨rfl, rfl⟩
      cases heq : (bs' == bs)
      · rw [heq] at hcnt'
        go_wp2_with fail
        go_roundw
        case rel => exact ⟨k, rest', rfl, by have h1 := hcnt'.out; have h2 := hkk.out; simp at h1; omega, hit2, hb2⟩
        case measure => rw [hL.out, hL2.out]; exact hlen.out
      · rw [heq] at hcnt'
        have hk1 : k ≤ 1000 := by have := hkk.out; omega
        go_wp2_with fail
        go_roundw
        case rel => exact ⟨k + 1, rest', by go_num, by have h1 := hcnt'.out; have h2 := hkk.out; simp at h1; omega, hit2, hb2⟩
        case measure => rw [hL.out, hL2.out]; exact hlen.out
set_option maxRecDepth 100000 in
set_option maxHeartbeats 1000000 in
theorem record_no {w : World} {b X : Nat} {x : Int} {S : Nat → Prop} {v : Bra.Votes} {l : List (Value × Value)} (hm : MapIs w b l) (hv : VotesIs w S v l) (h1 : w.cell? ⟨X, 1, none⟩ = some (.int .i64 x)) (hx : 0 ≤ x ∧ x < 64) (hin : Bra.voted v x = true) :
    Calls Try.prog 34 #[.map (some b), .pointer (some ⟨X, 0, none⟩)] w fun e w' => e = .returned (.bool false) ∧ w = w' := by
  have hkl : keyOf Try.prog 3 (.int .i64 x) = some (.int .i64 x) := Maps.keyOf_int_mk Try.underlying3 (WalkArith.wf_i64 (by omega))
  rcases hm.look (P := Try.prog) (Maps.int_keyed Try.underlying3) (hv.keys Try.underlying3) Try.underlying77 hkl true with ⟨j, u, hj, hrun⟩ | ⟨hno, _⟩
  · simp only [if_true] at hrun
    clear hm hv hin hkl hj
    go_enter Try.func34, Try.ntmps34
    go_wp2_with fail
    go_ret
    exact ⟨rfl, rfl⟩
  · obtain ⟨p, hp, e⟩ := hv.has hin
    exact absurd e (hno p hp)
set_option maxRecDepth 100000 in
set_option maxHeartbeats 1000000 in
theorem record_yes {w : World} {b X n c : Nat} {A : Option Addr} {x : Int} {S : Nat → Prop} {v : Bra.Votes} {l : List (Value × Value)} {bs : List UInt8} (hm : MapIs w b l) (hv : VotesIs w S v l) (h1 : w.cell? ⟨X, 1, none⟩ = some (.int .i64 x)) (h5 : w.cell? ⟨X, 5, none⟩ = some (.slice A n c))
    (hr : Rd w (fun _ => True) A n c bs) (hf : Fits bs) (hx : 0 ≤ x ∧ x < 64) (hin : Bra.voted v x = false) :
    Calls Try.prog 34 #[.map (some b), .pointer (some ⟨X, 0, none⟩)] w fun e w' => e = .returned (.bool true) ∧ Fr (fun i => i = b) w w' ∧
      ∃ s, SlIs w' (fun i => w.heap.size ≤ i) s bs ∧ MapIs w' b (l ++ [(.int .i64 x, s)]) := by
  have hkl : keyOf Try.prog 3 (.int .i64 x) = some (.int .i64 x) := Maps.keyOf_int_mk Try.underlying3 (WalkArith.wf_i64 (by omega))
  have hks := Lib.hid (hv.keys (P := Try.prog) (k := 3) Try.underlying3)
  have hno := Lib.hid (hv.hasnt hin)
  rcases hm.look (P := Try.prog) (Maps.int_keyed Try.underlying3) hks.out Try.underlying77 hkl true with ⟨j, u, hj, hrun⟩ | ⟨_, hz⟩
  · obtain ⟨p, hp⟩ : ∃ p, p ∈ l ∧ p.1 = .int .i64 x := ⟨_, List.mem_of_getElem? hj, rfl⟩
    exact absurd hp.2 (hno.out p hp.1)
  · have hrun := hz _ (show (zeroValue 33).run Try.prog w = .ok (.slice none 0 0) w by kernel_rfl)
    simp only [if_true] at hrun
    have hkl' := Lib.hid hkl
    have hR : Hid (Rd w (fun i => i < w.heap.size) A n c bs) := hr.mono (fun i hi _ => hi)
    have hF := Lib.hid hf
    have hX := Lib.hid (World.block_lt_of_cell? w _ h1)
    have hm' := Lib.hid hm
    clear hv hin hkl hz hr hf hm
    go_enter Try.func34, Try.ntmps34
    go_wp2_with fail
    have hXb : X ≠ b := by
      obtain ⟨es, clock, hb, _⟩ := hm'.out
      rintro rfl
      simp [World.cell?, hb] at h1
    have q1 : ∀ w', Fr (fun i => i = b) w.drew w' → w'.cell? ⟨X, 1, none⟩ = some (.int .i64 x) := fun w' h => (h.cell (p := ⟨X, 1, none⟩) hX.out hXb).trans h1
    have q5 : ∀ w', Fr (fun i => i = b) w.drew w' → w'.cell? ⟨X, 5, none⟩ = some (.slice A n c) := fun w' h => (h.cell (p := ⟨X, 5, none⟩) hX.out hXb).trans h5
    have hbl := Lib.hid hm'.out.lt
    have hm2 : Hid (MapIs w.drew b l) := hm'.out
    have hR2 : Hid (Rd w.drew (fun i => i < w.heap.size) A n c bs) := hR.out.ab (ab_drew w)
    have f2 : Fr (fun i => i = b) w w.drew := (Fr.refl _ w).drew
    have hsz : Hid (w.drew.heap.size = w.heap.size) := rfl
    clear hrun h1 h5 hXb
    refine wp_region_plan (Fr (fun i => i = b)) (Fr.refl _) (fr_tr _) [([0, 1, 2, 3, 4], 5), ([], 6)] [] (by kernel_rfl) (by kernel_rfl) (fun _ _ _ _ _ h => h) ?_
    simp only [wpPlan, ordPick, Option.toList_some, List.cons_append, List.nil_append, List.getElem?_cons_succ, List.getElem?_cons_zero]
    generalize w.drew = w2 at q1 q5 hm2 hR2 f2 hsz ⊢
    iterate 2 (go_big_quiet_step (exact fun _ => rfl))
    refine wpq_load_one rfl 3 (.tmp 15) rfl ⟨X, 1, none⟩ rfl _ q1 _ Try.underlying3 rfl ?_
    simp only [Act.put, List.setIfInBounds_toArray, List.set_cons_succ, List.set_cons_zero]
    iterate 1 (go_big_quiet_step (exact fun _ => rfl))
    refine wpq_load_one rfl 33 (.tmp 17) rfl ⟨X, 5, none⟩ rfl _ q5 _ Try.underlying33 rfl ?_
    simp only [Act.put, List.setIfInBounds_toArray, List.set_cons_succ, List.set_cons_zero]
    refine wpQuiet_nil ?_
    clear q1 q5
    go_wp2_with fail
    refine (clone_any hR2.out hF.out).mono ?_
    rintro e w3 ⟨s, rfl, hs, hb3⟩
    obtain ⟨As, ns, cs, hsv, hrs⟩ := hs
    subst hsv
    have hm3 : Hid (MapIs w3 b l) := hm2.out.below hb3 (by rw [hsz.out]; exact hbl.out)
    have f3 : Fr (fun i => i = b) w2 w3 := Fr.of_below hb3
    have f23 := f2.trans f3 (fun _ h => .inl h)
    go_wp2_with fail
    refine And.intro f3 (wpQuiet_nil ?_)
    clear hm2 hR2 f3 hb3
    go_wp2_with (at_mapUpdate; refine wpl_mapPush rfl (.tmp 14) (.tmp 16) (.tmp 19) 77 rfl 3 33 (Maps.int_keyed Try.underlying3) Try.underlying77 rfl hm3.out hks.out _ _ rfl rfl _ hkl'.out hno.out ?_; intro w4 hm4 hg4)
    have f4 : Fr (fun i => i = b) w3 w4 := (Fr.refl _ _).grown hg4 (fun k h => .inl (by cases h; rfl))
    have f24 := f23.trans f4 (fun _ h => .inl h)
    clear hg4
    go_wp2_with fail
    refine And.intro f4 (wpQuiet_nil ?_)
    have hr4 := hrs.fr f4 (fun i h e => by subst e; have := hbl.out; have := hsz.out; omega)
    clear f4 f23 hm3 hrs
    go_wp2_with fail
    go_ret
    exact ⟨rfl, f24, _, ⟨_, _, _, rfl, hr4.mono (fun i _ h => by rw [← hsz.out]; exact h)⟩, hm4⟩
end Go.Proofs.Ytplijfgjdlghbaa

/-
  Digest, walked.
-/
import Derived.Test.YtajohibeoicepaaDoorSySm
import Derived.Test.YtajohibeoicepaaDoorPad
import Derived.Test.YtajohibeoicepaaDoorOrdV
import Derived.Test.YtajohibeoicepaaDoorStr
import Derived.Deep.CutRange
namespace Sy
theorem part_get {p : List UInt8} {s : List Cm} {k : Nat} {x : Cm} (h : (part p s)[k]? = some x) : x ∈ s := part_sub (List.mem_of_getElem? h)
theorem body_take {l : List Cm} {k : Nat} {x : Cm} (h : l[k]? = some x) : body (l.take (k + 1)) = body (l.take k) ++ bts (enc x) := by
  obtain ⟨hk, rfl⟩ := List.getElem?_eq_some_iff.1 h
  rw [List.take_succ_eq_append_getElem hk, body_append]
  simp [body]
theorem body_take_le {m : Nat} {l : List Cm} (h : ∀ x ∈ l, csz x ≤ m) (k : Nat) : (body (l.take k)).length ≤ l.length * (m + 10) := by
  have h1 := length_body (m := m) (s := l.take k) fun x hx => h x (List.mem_of_mem_take hx)
  have h2 : (l.take k).length * (m + 10) ≤ l.length * (m + 10) := Nat.mul_le_mul_right _ (by simp; omega)
  omega
end Sy
namespace Go.Proofs.YtajohibeoicepaaDoor
open Go.RowKit Go.Pl
theorem one3 (a b c : Value) (ha : a.oneCell' = true := by rfl) (hb : b.oneCell' = true := by rfl) (hc : c.oneCell' = true := by rfl) : ∀ v ∈ (#[a, b, c] : Array Value).toList, v.oneCell' = true := by
  intro v hv
  simp at hv
  rcases hv with rfl | rfl | rfl <;> assumption
set_option maxRecDepth 100000 in
set_option maxHeartbeats 4000000 in
theorem digest_any (w : World) {A P : Option Addr} {n c pn pc : Nat} {l : List Sy.Cm} {ps : List UInt8} (hK : Kst w) (hs : RdE lCm w (fun i => i < w.heap.size) A n c l) (hn : n ≤ 16) (hz : ∀ x ∈ l, Sy.csz x ≤ 30000000) (hp : Rd w (fun i => i < w.heap.size) P pn pc ps) (hpn : pn ≤ 10000000) :
    Calls Tryd.prog 15 #[.slice A n c, .slice P pn pc] w fun e w' => ∃ P' p' q' A' n' c', e = .returned (.agg #[.slice P' p' q', .slice A' n' c', .int .i64 ((Sy.part ps l).length : Int)]) ∧
      Rd w' (fun i => w.heap.size ≤ i) P' p' q' ps ∧ Rd w' (fun i => w.heap.size ≤ i) A' n' c' (Sha.sha (Sy.body (Sy.part ps l))) ∧ Below w.heap.size w w' := by
  have hsd := Lib.hid hs
  have hpd := Lib.hid hp
  have hzd := Lib.hid hz
  have hnl := Lib.hid hs.len
  have hKd := Lib.hid hK
  have hnd := Lib.hid hn
  have hpnl := Lib.hid hp.len
  have hpnd := Lib.hid hpn
  clear hs hp hz hK hn hpn
  go_enter Tryd.func15, Tryd.ntmps15
  go_wp2_with fail
  obtain ⟨w2, hw2⟩ : ∃ w2, (w.alloc (.cells #[.slice none 0 0, .slice none 0 0, .int .i64 0] 30)).alloc (.cells #[.slice none 0 0] 54) = w2 := ⟨_, rfl⟩
  have hb2 : Below w.heap.size w w2 := by rw [← hw2]; exact ((Below.refl _ w).alloc (Nat.le_refl _) _).alloc (by simp) _
  have hR : Blk w2 w.heap.size 30 #[.slice none 0 0, .slice none 0 0, .int .i64 0] := by rw [← hw2]; exact (Blk.new' rfl).alloc _
  have hG : Blk w2 (w.heap.size + 1) 54 #[.slice none 0 0] := by rw [← hw2]; exact Blk.new' (by simp)
  have hs2 : w2.heap.size = w.heap.size + 1 + 1 := by rw [← hw2]; exact (Array.size_push _).trans (congrArg (· + 1) (Array.size_push _))
  rw [hw2]
  have hb2d := Lib.hid hb2
  have hRd := Lib.hid hR
  have hGd := Lib.hid hG
  have hs2d := Lib.hid hs2
  have hf2 := Fr.of_below (F := fun _ => False) hb2
  clear hw2 hb2 hR hG hs2
  refine (part_any w2 (S := fun i => i < w.heap.size) (fun i h => by have := hs2d.out; omega) (hsd.out.fr hf2 (fun _ _ h => h)) (by have := hnd.out; omega) hzd.out ((hpd.out.fr hf2 (fun _ _ h => h)).mono (fun i hi _ => hi))).mono ?_
  rintro e w3 ⟨A3, n3, c3, rfl, hl3, hb3⟩
  have hb23d : Hid (Below w2.heap.size w2 w3) := hb3
  have hb3d : Hid (Below w.heap.size w w3) := hb2d.out.trans (hb3.mono hb2d.out.size)
  have hnl3 := Lib.hid hl3.len
  have hn3 : n3 ≤ 16 := by have := hnl3.out; have := Sy.part_len ps l; have := hnl.out; have := hnd.out; omega
  have hl3d := Lib.hid hl3
  have hz3 : Hid (∀ x ∈ Sy.part ps l, Sy.csz x ≤ 30000000) := fun x hx => hzd.out x (Sy.part_sub hx)
  obtain ⟨G, hG0⟩ : ∃ G, w.heap.size + 1 = G := ⟨_, rfl⟩
  obtain ⟨q, hq0⟩ : ∃ q, Sy.part ps l = q := ⟨_, rfl⟩
  have hq0d := Lib.hid hq0
  have hG0d := Lib.hid hG0
  rw [hq0] at hl3d hz3 hnl3
  rw [hG0] at hGd ⊢
  have hW3 : Hid (Wk w3 (fun i => i = G ∨ w3.heap.size ≤ i) G []) := by
    have h : Wk w2 (fun i => i = G ∨ w3.heap.size ≤ i) G [] := ⟨.inl rfl, _, hGd.out, World.ownsRow_nil _ _ _ _, fun g hg => by cases hg⟩
    exact h.fr (Fr.of_below (F := fun _ => False) hb3) (fun _ _ h => h)
  clear hf2 hl3 hb3 hq0 hG0
  go_wp2_with fail
  go_loopw [15] (fun t wr => ∃ k : Nat, k ≤ n3 ∧ t = .int .i64 k ∧ Wk wr (fun i => i = G ∨ w3.heap.size ≤ i) G (Sy.body (q.take k)) ∧ Fr (fun i => i = G ∨ w3.heap.size ≤ i) w3 wr) (fun t _ => n3 - (intOf t).toNat)
  case atStart => exact ⟨0, Nat.zero_le _, rfl, by simpa [Sy.body] using hW3.out, Fr.refl _ _⟩
  case round =>
    obtain ⟨k, hk, rfl, hWr, hfr⟩ := hrel
    have hWrd := Lib.hid hWr
    have hfrd := Lib.hid hfr
    clear hWr hfr hW3
    by_cases hlt : k < n3
    · have hkl : k < q.length := by have := hnl3.out; omega
      obtain ⟨x, hx⟩ : ∃ x, q[k]? = some x := ⟨_, List.getElem?_eq_getElem hkl⟩
      have hdis : ∀ i, (i < w.heap.size ∨ w2.heap.size ≤ i) ∧ i < w3.heap.size → ¬ (i = G ∨ w3.heap.size ≤ i) := fun i h => by have := hG0d.out; have := hs2d.out; omega
      have hlr := (hl3d.out.mono (T := fun i => (i < w.heap.size ∨ w2.heap.size ≤ i) ∧ i < w3.heap.size) (fun i hi h => ⟨h, hi⟩)).fr hfrd.out hdis
      obtain ⟨b, o, u, rfl, hbB, hbl, ⟨A1, n1, c1, B1, m1, d1, rfl, hr1, hr2⟩, hcell⟩ := hlr.get hx
      have e0 : wr.cell? ⟨b, o + k * 6, none⟩ = some (.int .i64 x.client) := hcell 0 _ rfl
      have e1 : wr.cell? ⟨b, o + k * 6 + 1, none⟩ = some (.int .i64 x.seq) := hcell 1 _ rfl
      have e2 : wr.cell? ⟨b, o + k * 6 + 2, none⟩ = some (.int .i64 x.kind) := hcell 2 _ rfl
      have e3 : wr.cell? ⟨b, o + k * 6 + 3, none⟩ = some (.slice A1 n1 c1) := hcell 3 _ rfl
      have e4 : wr.cell? ⟨b, o + k * 6 + 4, none⟩ = some (.int .i64 x.replica) := hcell 4 _ rfl
      have e5 : wr.cell? ⟨b, o + k * 6 + 5, none⟩ = some (.slice B1 m1 d1) := hcell 5 _ rfl
      have hxd := Lib.hid hx
      have hr1d := Lib.hid hr1
      have hr2d := Lib.hid hr2
      have hltd := Lib.hid hlt
      have hzx : Hid (Sy.csz x ≤ 30000000) := hz3.out x (List.mem_of_getElem? hx)
      clear hcell hr1 hr2 hx hkl hbB hbl hlr hdis
      go_wp2_with fail
      clear e0 e1 e2 e3 e4 e5
      obtain ⟨w4, hw4⟩ : ∃ w4, wr.alloc (.cells (cma x A1 n1 c1 B1 m1 d1) 39) = w4 := ⟨_, rfl⟩
      have hb4 : Hid (Below wr.heap.size wr w4) := by show Below _ _ _; rw [← hw4]; exact (Below.refl _ _).alloc (Nat.le_refl _) _
      rw [hw4]
      have hf4 := Fr.of_below (F := fun _ => False) hb4.out
      clear hw4
      refine (cenc_any x w4 ((hr1d.out.fr hf4 (fun _ _ h => h)).mono (fun i hi _ => hi)) ((hr2d.out.fr hf4 (fun _ _ h => h)).mono (fun i hi _ => hi)) hzx.out).mono ?_
      rintro e w5 ⟨D, k5, rfl, hr5, hb5⟩
      have hb5d := Lib.hid hb5
      have hr5d := Lib.hid hr5
      have hb45 : Hid (Below wr.heap.size wr w5) := hb4.out.trans (hb5.mono hb4.out.size)
      clear hf4 hr5 hb5
      go_wp2_with fail
      have hG3 : G < w3.heap.size := by have := hG0d.out; have := hs2d.out; have := hb23d.out.size; omega
      have hsz4 := hb4.out.size
      have hsz5 := hb5d.out.size
      have hszr := hfrd.out.size
      have hW5 : Wk w5 (fun i => i = G ∨ (w3.heap.size ≤ i ∧ i < wr.heap.size) ∨ w5.heap.size ≤ i) G (Sy.body (q.take k)) :=
        (hWrd.out.mono (fun i hi h => h.imp id (fun h => .inl ⟨h, hi⟩))).fr (Fr.of_below (F := fun _ => False) hb45.out) (fun _ _ h => h)
      refine (wbytes_k (Sy.enc x) w5 (fun i => w4.heap.size ≤ i ∧ i < w5.heap.size) (fun i h h' => by omega) (hr5d.out.mono (fun i hi h => ⟨h, hi⟩)) (fun i hi => .inr (.inr hi)) hW5 (by
        have h1 := Sy.body_take_le hz3.out k
        have h2 := hzx.out
        have h3 := Sy.length_enc x
        have h4 : q.length * (30000000 + 10) ≤ 16 * (30000000 + 10) := Nat.mul_le_mul_right _ (by have := hnl3.out; omega)
        omega)).mono ?_
      rintro e w6 ⟨rfl, hW6, hf6⟩
      go_wp2_with fail
      go_roundw
      case rel =>
        refine ⟨k + 1, hlt, by go_num, ?_, ?_⟩
        · rw [Sy.body_take hxd.out]
          exact hW6.mono (fun i _ h => h.elim .inl (fun h => .inr (by omega)))
        · exact (hfrd.out.trans (Fr.of_below (F := fun _ => False) hb45.out) (fun i h => h.elim)).trans hf6 (fun i h => h.elim (fun h => .inl (.inl h)) (fun h => .inl (.inr (by omega))))
      case measure => simp [intOf]; omega
    · have hkn := Lib.hid (show k = n3 by omega)
      have hWq : Hid (Wk wr (fun i => i = G ∨ w3.heap.size ≤ i) G (Sy.body q)) := by
        have e : q.take k = q := by rw [hkn.out, hnl3.out]; exact List.take_length
        have h := hWrd.out
        rw [e] at h
        exact h
      have hG3 : Hid (w.heap.size < w3.heap.size ∧ w.heap.size ≠ G) := by have := hG0d.out; have := hs2d.out; have := hb23d.out.size; show _ ∧ _; omega
      have hbl : Hid ((Sy.body q).length ≤ 1000000000) := by
        have h1 := Sy.length_body (s := q) (m := 30000000) hz3.out
        have h4 : q.length * (30000000 + 10) ≤ 16 * (30000000 + 10) := Nat.mul_le_mul_right _ (by have := hnl3.out; omega)
        show _ ≤ _
        omega
      have hbl2 : Hid ((Sy.body q).length ≤ 70368744177664) := Nat.le_trans hbl.out (by decide)
      have hsl : Hid ((Sha.sha (Sy.body q)).length ≤ maxLen) := by show _ ≤ _; rw [Sha.length_sha]; simp only [maxLen]; decide
      have hmk : Hid (pn * 1 ≤ 281474976710656) := by have := hpnd.out; show _ ≤ _; omega
      obtain ⟨Z, hZ0⟩ : ∃ Z, (List.replicate pn (Value.int .u8 0)).toArray = Z := ⟨_, rfl⟩
      have hZ := Lib.hid hZ0
      have hKr : Hid (Kst wr) := (hKd.out.below hb3d.out hKd.out.pos).fr hfrd.out (fun h => by have := hKd.out.pos; have := hG0d.out; have := hb3d.out.size; omega)
      clear hZ0
      go_upto_region 8 with fail
      go_cut [9] from 23 to 31 (fun s9 wx => ∃ (M D T k9 : Nat), s9 = .pointer (some ⟨T, 0, none⟩) ∧ wr.heap.size ≤ M ∧ wr.heap.size ≤ D ∧ wr.heap.size ≤ T ∧ M ≠ D ∧ M ≠ T ∧ D ≠ T ∧
        Blk wx M 5 Z ∧ Dig wx D 5 k9 (Sha.sha (Sy.body q)) ∧ Blk wx T 30 #[.slice (some ⟨M, 0, none⟩) pn pn, .slice (some ⟨D, 0, none⟩) (Sha.sha (Sy.body q)).length k9, .int .i64 (n3 : Int)] ∧ Below wr.heap.size wr wx)
      case first =>
        -- TREE
        refine wp_region_late (fun _ _ => True) (fun _ => trivial) (fun _ _ _ _ _ => trivial) [] (.three [0, 1, 6, 7] [] 2 (.two [] [] 3 (.two [] [] 4 (.two [] [] 5 (.one [8] [] 9 (.one [] [] 10 (.last [] []))) 9 (.one [] [] 5 (.one [8] [] 10 (.last [] [])))) 9 (.one [] [] 4 (.one [] [] 5 (.one [8] [] 10 (.last [] []))))) 9 (.one [] [] 3 (.one [] [] 4 (.one [] [] 5 (.one [8] [] 10 (.last [] [])))))) 3 (.three [] [] 2 (.two [] [] 4 (.two [] [] 5 (.one [8] [] 9 (.one [] [] 10 (.last [] []))) 9 (.one [] [] 5 (.one [8] [] 10 (.last [] [])))) 9 (.one [] [] 4 (.one [] [] 5 (.one [8] [] 10 (.last [] []))))) 4 (.three [] [] 2 (.two [] [] 5 (.one [8] [] 9 (.one [] [] 10 (.last [] []))) 9 (.one [] [] 5 (.one [8] [] 10 (.last [] [])))) 5 (.two [] [] 2 (.one [8] [] 9 (.one [] [] 10 (.last [] []))) 9 (.one [] [] 2 (.one [8] [] 10 (.last [] [])))) 9 (.two [] [] 2 (.one [] [] 5 (.one [8] [] 10 (.last [] []))) 5 (.one [] [] 2 (.one [8] [] 10 (.last [] []))))) 9 (.two [] [] 2 (.one [] [] 4 (.one [] [] 5 (.one [8] [] 10 (.last [] [])))) 4 (.two [] [] 2 (.one [] [] 5 (.one [8] [] 10 (.last [] []))) 5 (.one [] [] 2 (.one [8] [] 10 (.last [] [])))))) 9 (.two [] [] 2 (.one [] [] 3 (.one [] [] 4 (.one [] [] 5 (.one [8] [] 10 (.last [] []))))) 3 (.two [] [] 2 (.one [] [] 4 (.one [] [] 5 (.one [8] [] 10 (.last [] [])))) 4 (.two [] [] 2 (.one [] [] 5 (.one [8] [] 10 (.last [] []))) 5 (.one [] [] 2 (.one [8] [] 10 (.last [] []))))))) (by kernel_rfl) (by kernel_rfl) (fun _ _ _ _ _ h => h) ?_
        simp only [wpSchV, ordPick, Option.toList_some, List.cons_append, List.nil_append, List.getElem?_cons_succ, List.getElem?_cons_zero]
        obtain ⟨x0, hx0⟩ : ∃ x, wr.drew = x := ⟨_, rfl⟩
        have hAx0 : Hid (Below wr.heap.size wr x0) := by show Below _ _ _; rw [← hx0]; exact ab_drew wr
        have hWx0 : Hid (Wk x0 (fun i => i = G ∨ w3.heap.size ≤ i) G (Sy.body q)) := hWq.out.fr (Fr.of_below (F := fun _ => False) hAx0.out) (fun _ _ h => h)
        rw [hx0]
        clear hx0
        iterate 4 (go_big_quiet_step (exact fun _ => rfl))
        refine wpQuiet_nil (wpQuiet_nil ?_)
        refine ⟨?_, ?_, ?_⟩
        · obtain ⟨M, hMe⟩ : ∃ M, Hid (x0.heap.size = M) := ⟨_, rfl⟩
          have hMle : Hid (wr.heap.size ≤ M) := hMe.out ▸ hAx0.out.size
          go_wp2_with (refine wpl_make rfl 23 (.tmp 24) (.tmp 24) rfl x0.heap.size 5 (.int .u8 0) 1 Tryd.underlying23 infoByte rfl (by decide) .i64 .i64 pn rfl rfl hmk.out (Nat.le_refl _) ?hh)
          case hh =>
           intro x1 ho hg
           have hsx1 : Hid (Below x0.heap.size x0 x1) := (Below.refl _ _).grown hg (Nat.le_refl _) (by intro k hk; cases hk)
           have hMx1 : Hid (Blk x1 M 5 Z) := by show Blk _ _ _ _; rw [← hMe.out, ← hZ.out]; exact own_blk ho
           rw [hMe.out]
           have hWx1 : Hid (Wk x1 (fun i => i = G ∨ w3.heap.size ≤ i) G (Sy.body q)) := hWx0.out.fr (Fr.of_below (F := fun _ => False) hsx1.out) (fun _ _ h => h)
           have hAx1 : Hid (Below wr.heap.size wr x1) := hAx0.out.trans (hsx1.out.mono hAx0.out.size)
           clear hWx0 hAx0
           clear ho hg hMe hsx1
           go_wp2_with fail
           refine And.intro (.inr trivial) ?_
           simp only
           refine wpQuiet_nil (wpQuiet_nil ?_)
           refine ⟨?_, ?_⟩
           · go_wp2_with fail
             refine (wdata_k x1 hWx1.out hbl.out).mono ?_
             rintro e x2 ⟨A7, c7, rfl, ho, hb⟩
             have hsx2 : Hid (Below x1.heap.size x1 x2) := hb
             have hRx2 : Hid (Rd x2 (fun _ => True) A7 (Sy.body q).length c7 (Sy.body q)) := (own_rd ho).mono (fun _ _ _ => trivial)
             have hMx2 : Hid (Blk x2 M 5 Z) := hMx1.out.fr (Fr.of_below (F := fun _ => False) hsx2.out) (fun h => h)
             have hAx2 : Hid (Below wr.heap.size wr x2) := hAx1.out.trans (hsx2.out.mono hAx1.out.size)
             clear hMx1 hWx1 hAx1
             clear ho hb hsx2
             go_wp2_with fail
             refine And.intro (.inr trivial) ?_
             simp only
             refine wpQuiet_nil (wpQuiet_nil ?_)
             refine ⟨?_, ?_⟩
             · go_wp2_with fail
               refine (sum_any x2 (hKr.out.below hAx2.out hKr.out.pos) hRx2.out hbl2.out).mono ?_
               rintro e x3 ⟨rfl, hb⟩
               have hsx3 : Hid (Below x2.heap.size x2 x3) := hb
               have hMx3 : Hid (Blk x3 M 5 Z) := hMx2.out.fr (Fr.of_below (F := fun _ => False) hsx3.out) (fun h => h)
               have hAx3 : Hid (Below wr.heap.size wr x3) := hAx2.out.trans (hsx3.out.mono hAx2.out.size)
               clear hMx2 hRx2 hAx2
               clear hb hsx3
               go_wp2_with fail
               refine And.intro (.inr trivial) ?_
               simp only
               refine wpQuiet_nil (wpQuiet_nil ?_)
               refine ⟨?_, ?_⟩
               · obtain ⟨D, hDe⟩ : ∃ D, Hid (x3.heap.size = D) := ⟨_, rfl⟩
                 have hDle : Hid (wr.heap.size ≤ D) := hDe.out ▸ hAx3.out.size
                 have hneDM : Hid (M ≠ D) := fun e => by have := hMx3.out.lt; have := hDe.out; omega
                 go_wp2_with (refine wpl_bytes_str rfl 9 23 5 (.tmp 27) rfl Tryd.underlying9 Tryd.underlying23 Tryd.underlying5 (Sha.sha (Sy.body q)) rfl hsl.out ?hh)
                 case hh =>
                  intro k9 x4 hd hg
                  have hsx4 : Hid (Below x3.heap.size x3 x4) := (Below.refl _ _).grown hg (Nat.le_refl _) (by intro k hk; cases hk)
                  have hDx4 : Hid (Dig x4 D 5 k9 (Sha.sha (Sy.body q))) := by show Dig _ _ _ _ _; rw [← hDe.out]; exact hd
                  rw [hDe.out]
                  have hMx4 : Hid (Blk x4 M 5 Z) := hMx3.out.fr (Fr.of_below (F := fun _ => False) hsx4.out) (fun h => h)
                  have hAx4 : Hid (Below wr.heap.size wr x4) := hAx3.out.trans (hsx4.out.mono hAx3.out.size)
                  clear hMx3 hAx3
                  clear hd hg hDe hsx4
                  go_wp2_with fail
                  refine And.intro (.inr trivial) ?_
                  simp only
                  iterate 1 (go_big_quiet_step (exact fun _ => rfl))
                  refine wpQuiet_nil (wpQuiet_nil ?_)
                  obtain ⟨T, hTe⟩ : ∃ T, Hid (x4.heap.size = T) := ⟨_, rfl⟩
                  have hTle : Hid (wr.heap.size ≤ T) := hTe.out ▸ hAx4.out.size
                  have hneTM : Hid (M ≠ T) := fun e => by have := hMx4.out.lt; have := hTe.out; omega
                  have hneTD : Hid (D ≠ T) := fun e => by have := hDx4.out.lt; have := hTe.out; omega
                  go_wp2_with fail
                  obtain ⟨x5, hx5⟩ : ∃ x, x4.alloc (.cells #[.slice none 0 0, .slice none 0 0, .int .i64 0] 30) = x := ⟨_, rfl⟩
                  have hsx5 : Hid (Below x4.heap.size x4 x5) := by show Below _ _ _; rw [← hx5]; exact (Below.refl _ _).alloc (Nat.le_refl _) _
                  have hTx5 : Hid (Blk x5 T 30 #[.slice none 0 0, .slice none 0 0, .int .i64 0]) := by show Blk _ _ _ _; rw [← hTe.out, ← hx5]; exact Blk.new' rfl
                  rw [hx5, hTe.out]
                  have hMx5 : Hid (Blk x5 M 5 Z) := hMx4.out.fr (Fr.of_below (F := fun _ => False) hsx5.out) (fun h => h)
                  have hDx5 : Hid (Dig x5 D 5 k9 (Sha.sha (Sy.body q))) := hDx4.out.fr (Fr.of_below (F := fun _ => False) hsx5.out) (fun h => h)
                  have hAx5 : Hid (Below wr.heap.size wr x5) := hAx4.out.trans (hsx5.out.mono hAx4.out.size)
                  clear hMx4 hDx4 hAx4
                  clear hx5 hTe hsx5
                  refine And.intro (.inr trivial) ?_
                  simp only
                  refine wpQuiet_nil (wpQuiet_nil ?_)
                  go_wp2_with (refine wpl_store_new _ rfl 30 (.tmp 9) (.tmp 31) rfl T rfl #[.slice (some ⟨M, 0, none⟩) pn pn, .slice (some ⟨D, 0, none⟩) (Sha.sha (Sy.body q)).length k9, .int .i64 (n3 : Int)] rfl 30 _ hTx5.out (by kernel_rfl) rfl (one3 _ _ _) ?hh)
                  case hh =>
                   intro x6 hk hg
                   have hkd : Hid (Blk x6 T 30 #[.slice (some ⟨M, 0, none⟩) pn pn, .slice (some ⟨D, 0, none⟩) (Sha.sha (Sy.body q)).length k9, .int .i64 (n3 : Int)]) := hk
                   have hF : Fr (fun i => i = T) x5 x6 := (Fr.refl _ _).grown hg (fun i e => .inl (Option.some.inj e).symm)
                   have hFd := Lib.hid hF
                   clear hk hg hF
                   go_wp2_with fail
                   refine And.intro (.inr trivial) ?_
                   simp only
                   refine wpQuiet_nil (wpQuiet_nil ?_)
                   go_wp2_with fail
                   go_meet
                   exact ⟨M, D, T, k9, rfl, hMle.out, hDle.out, hTle.out, by first | exact hneMD.out.symm | exact hneDM.out, by first | exact hneMT.out.symm | exact hneTM.out, by first | exact hneDT.out.symm | exact hneTD.out, hMx5.out.fr hFd.out (by first | exact hneMT.out.symm | exact hneTM.out), hDx5.out.fr hFd.out (by first | exact hneDT.out.symm | exact hneTD.out), hkd.out, hAx5.out.trans (hFd.out.below (fun i h => by rw [h]; exact hTle.out) hAx5.out.size)⟩
               · obtain ⟨T, hTe⟩ : ∃ T, Hid (x3.heap.size = T) := ⟨_, rfl⟩
                 have hTle : Hid (wr.heap.size ≤ T) := hTe.out ▸ hAx3.out.size
                 have hneTM : Hid (M ≠ T) := fun e => by have := hMx3.out.lt; have := hTe.out; omega
                 go_wp2_with fail
                 obtain ⟨x7, hx7⟩ : ∃ x, x3.alloc (.cells #[.slice none 0 0, .slice none 0 0, .int .i64 0] 30) = x := ⟨_, rfl⟩
                 have hsx7 : Hid (Below x3.heap.size x3 x7) := by show Below _ _ _; rw [← hx7]; exact (Below.refl _ _).alloc (Nat.le_refl _) _
                 have hTx7 : Hid (Blk x7 T 30 #[.slice none 0 0, .slice none 0 0, .int .i64 0]) := by show Blk _ _ _ _; rw [← hTe.out, ← hx7]; exact Blk.new' rfl
                 rw [hx7, hTe.out]
                 have hMx7 : Hid (Blk x7 M 5 Z) := hMx3.out.fr (Fr.of_below (F := fun _ => False) hsx7.out) (fun h => h)
                 have hAx7 : Hid (Below wr.heap.size wr x7) := hAx3.out.trans (hsx7.out.mono hAx3.out.size)
                 clear hMx3 hAx3
                 clear hx7 hTe hsx7
                 refine And.intro (.inr trivial) ?_
                 simp only
                 refine wpQuiet_nil (wpQuiet_nil ?_)
                 obtain ⟨D, hDe⟩ : ∃ D, Hid (x7.heap.size = D) := ⟨_, rfl⟩
                 have hDle : Hid (wr.heap.size ≤ D) := hDe.out ▸ hAx7.out.size
                 have hneDM : Hid (M ≠ D) := fun e => by have := hMx7.out.lt; have := hDe.out; omega
                 have hneDT : Hid (T ≠ D) := fun e => by have := hTx7.out.lt; have := hDe.out; omega
                 go_wp2_with (refine wpl_bytes_str rfl 9 23 5 (.tmp 27) rfl Tryd.underlying9 Tryd.underlying23 Tryd.underlying5 (Sha.sha (Sy.body q)) rfl hsl.out ?hh)
                 case hh =>
                  intro k9 x8 hd hg
                  have hsx8 : Hid (Below x7.heap.size x7 x8) := (Below.refl _ _).grown hg (Nat.le_refl _) (by intro k hk; cases hk)
                  have hDx8 : Hid (Dig x8 D 5 k9 (Sha.sha (Sy.body q))) := by show Dig _ _ _ _ _; rw [← hDe.out]; exact hd
                  rw [hDe.out]
                  have hMx8 : Hid (Blk x8 M 5 Z) := hMx7.out.fr (Fr.of_below (F := fun _ => False) hsx8.out) (fun h => h)
                  have hTx8 : Hid (Blk x8 T 30 #[.slice none 0 0, .slice none 0 0, .int .i64 0]) := hTx7.out.fr (Fr.of_below (F := fun _ => False) hsx8.out) (fun h => h)
                  have hAx8 : Hid (Below wr.heap.size wr x8) := hAx7.out.trans (hsx8.out.mono hAx7.out.size)
                  clear hMx7 hTx7 hAx7
                  clear hd hg hDe hsx8
                  go_wp2_with fail
                  refine And.intro (.inr trivial) ?_
                  simp only
                  iterate 1 (go_big_quiet_step (exact fun _ => rfl))
                  refine wpQuiet_nil (wpQuiet_nil ?_)
                  go_wp2_with (refine wpl_store_new _ rfl 30 (.tmp 9) (.tmp 31) rfl T rfl #[.slice (some ⟨M, 0, none⟩) pn pn, .slice (some ⟨D, 0, none⟩) (Sha.sha (Sy.body q)).length k9, .int .i64 (n3 : Int)] rfl 30 _ hTx8.out (by kernel_rfl) rfl (one3 _ _ _) ?hh)
                  case hh =>
                   intro x9 hk hg
                   have hkd : Hid (Blk x9 T 30 #[.slice (some ⟨M, 0, none⟩) pn pn, .slice (some ⟨D, 0, none⟩) (Sha.sha (Sy.body q)).length k9, .int .i64 (n3 : Int)]) := hk
                   have hF : Fr (fun i => i = T) x8 x9 := (Fr.refl _ _).grown hg (fun i e => .inl (Option.some.inj e).symm)
                   have hFd := Lib.hid hF
                   clear hk hg hF
                   go_wp2_with fail
                   refine And.intro (.inr trivial) ?_
                   simp only
                   refine wpQuiet_nil (wpQuiet_nil ?_)
                   go_wp2_with fail
                   go_meet
                   exact ⟨M, D, T, k9, rfl, hMle.out, hDle.out, hTle.out, by first | exact hneMD.out.symm | exact hneDM.out, by first | exact hneMT.out.symm | exact hneTM.out, by first | exact hneDT.out.symm | exact hneTD.out, hMx8.out.fr hFd.out (by first | exact hneMT.out.symm | exact hneTM.out), hDx8.out.fr hFd.out (by first | exact hneDT.out.symm | exact hneTD.out), hkd.out, hAx8.out.trans (hFd.out.below (fun i h => by rw [h]; exact hTle.out) hAx8.out.size)⟩
             · obtain ⟨T, hTe⟩ : ∃ T, Hid (x2.heap.size = T) := ⟨_, rfl⟩
               have hTle : Hid (wr.heap.size ≤ T) := hTe.out ▸ hAx2.out.size
               have hneTM : Hid (M ≠ T) := fun e => by have := hMx2.out.lt; have := hTe.out; omega
               go_wp2_with fail
               obtain ⟨x10, hx10⟩ : ∃ x, x2.alloc (.cells #[.slice none 0 0, .slice none 0 0, .int .i64 0] 30) = x := ⟨_, rfl⟩
               have hsx10 : Hid (Below x2.heap.size x2 x10) := by show Below _ _ _; rw [← hx10]; exact (Below.refl _ _).alloc (Nat.le_refl _) _
               have hTx10 : Hid (Blk x10 T 30 #[.slice none 0 0, .slice none 0 0, .int .i64 0]) := by show Blk _ _ _ _; rw [← hTe.out, ← hx10]; exact Blk.new' rfl
               rw [hx10, hTe.out]
               have hMx10 : Hid (Blk x10 M 5 Z) := hMx2.out.fr (Fr.of_below (F := fun _ => False) hsx10.out) (fun h => h)
               have hRx10 : Hid (Rd x10 (fun _ => True) A7 (Sy.body q).length c7 (Sy.body q)) := hRx2.out.fr (Fr.of_below (F := fun _ => False) hsx10.out) (fun _ _ h => h)
               have hAx10 : Hid (Below wr.heap.size wr x10) := hAx2.out.trans (hsx10.out.mono hAx2.out.size)
               clear hMx2 hRx2 hAx2
               clear hx10 hTe hsx10
               refine And.intro (.inr trivial) ?_
               simp only
               refine wpQuiet_nil (wpQuiet_nil ?_)
               go_wp2_with fail
               refine (sum_any x10 (hKr.out.below hAx10.out hKr.out.pos) hRx10.out hbl2.out).mono ?_
               rintro e x11 ⟨rfl, hb⟩
               have hsx11 : Hid (Below x10.heap.size x10 x11) := hb
               have hMx11 : Hid (Blk x11 M 5 Z) := hMx10.out.fr (Fr.of_below (F := fun _ => False) hsx11.out) (fun h => h)
               have hTx11 : Hid (Blk x11 T 30 #[.slice none 0 0, .slice none 0 0, .int .i64 0]) := hTx10.out.fr (Fr.of_below (F := fun _ => False) hsx11.out) (fun h => h)
               have hAx11 : Hid (Below wr.heap.size wr x11) := hAx10.out.trans (hsx11.out.mono hAx10.out.size)
               clear hMx10 hRx10 hTx10 hAx10
               clear hb hsx11
               go_wp2_with fail
               refine And.intro (.inr trivial) ?_
               simp only
               refine wpQuiet_nil (wpQuiet_nil ?_)
               obtain ⟨D, hDe⟩ : ∃ D, Hid (x11.heap.size = D) := ⟨_, rfl⟩
               have hDle : Hid (wr.heap.size ≤ D) := hDe.out ▸ hAx11.out.size
               have hneDM : Hid (M ≠ D) := fun e => by have := hMx11.out.lt; have := hDe.out; omega
               have hneDT : Hid (T ≠ D) := fun e => by have := hTx11.out.lt; have := hDe.out; omega
               go_wp2_with (refine wpl_bytes_str rfl 9 23 5 (.tmp 27) rfl Tryd.underlying9 Tryd.underlying23 Tryd.underlying5 (Sha.sha (Sy.body q)) rfl hsl.out ?hh)
               case hh =>
                intro k9 x12 hd hg
                have hsx12 : Hid (Below x11.heap.size x11 x12) := (Below.refl _ _).grown hg (Nat.le_refl _) (by intro k hk; cases hk)
                have hDx12 : Hid (Dig x12 D 5 k9 (Sha.sha (Sy.body q))) := by show Dig _ _ _ _ _; rw [← hDe.out]; exact hd
                rw [hDe.out]
                have hMx12 : Hid (Blk x12 M 5 Z) := hMx11.out.fr (Fr.of_below (F := fun _ => False) hsx12.out) (fun h => h)
                have hTx12 : Hid (Blk x12 T 30 #[.slice none 0 0, .slice none 0 0, .int .i64 0]) := hTx11.out.fr (Fr.of_below (F := fun _ => False) hsx12.out) (fun h => h)
                have hAx12 : Hid (Below wr.heap.size wr x12) := hAx11.out.trans (hsx12.out.mono hAx11.out.size)
                clear hMx11 hTx11 hAx11
                clear hd hg hDe hsx12
                go_wp2_with fail
                refine And.intro (.inr trivial) ?_
                simp only
                iterate 1 (go_big_quiet_step (exact fun _ => rfl))
                refine wpQuiet_nil (wpQuiet_nil ?_)
                go_wp2_with (refine wpl_store_new _ rfl 30 (.tmp 9) (.tmp 31) rfl T rfl #[.slice (some ⟨M, 0, none⟩) pn pn, .slice (some ⟨D, 0, none⟩) (Sha.sha (Sy.body q)).length k9, .int .i64 (n3 : Int)] rfl 30 _ hTx12.out (by kernel_rfl) rfl (one3 _ _ _) ?hh)
                case hh =>
                 intro x13 hk hg
                 have hkd : Hid (Blk x13 T 30 #[.slice (some ⟨M, 0, none⟩) pn pn, .slice (some ⟨D, 0, none⟩) (Sha.sha (Sy.body q)).length k9, .int .i64 (n3 : Int)]) := hk
                 have hF : Fr (fun i => i = T) x12 x13 := (Fr.refl _ _).grown hg (fun i e => .inl (Option.some.inj e).symm)
                 have hFd := Lib.hid hF
                 clear hk hg hF
                 go_wp2_with fail
                 refine And.intro (.inr trivial) ?_
                 simp only
                 refine wpQuiet_nil (wpQuiet_nil ?_)
                 go_wp2_with fail
                 go_meet
                 exact ⟨M, D, T, k9, rfl, hMle.out, hDle.out, hTle.out, by first | exact hneMD.out.symm | exact hneDM.out, by first | exact hneMT.out.symm | exact hneTM.out, by first | exact hneDT.out.symm | exact hneTD.out, hMx12.out.fr hFd.out (by first | exact hneMT.out.symm | exact hneTM.out), hDx12.out.fr hFd.out (by first | exact hneDT.out.symm | exact hneTD.out), hkd.out, hAx12.out.trans (hFd.out.below (fun i h => by rw [h]; exact hTle.out) hAx12.out.size)⟩
           · obtain ⟨T, hTe⟩ : ∃ T, Hid (x1.heap.size = T) := ⟨_, rfl⟩
             have hTle : Hid (wr.heap.size ≤ T) := hTe.out ▸ hAx1.out.size
             have hneTM : Hid (M ≠ T) := fun e => by have := hMx1.out.lt; have := hTe.out; omega
             go_wp2_with fail
             obtain ⟨x14, hx14⟩ : ∃ x, x1.alloc (.cells #[.slice none 0 0, .slice none 0 0, .int .i64 0] 30) = x := ⟨_, rfl⟩
             have hsx14 : Hid (Below x1.heap.size x1 x14) := by show Below _ _ _; rw [← hx14]; exact (Below.refl _ _).alloc (Nat.le_refl _) _
             have hTx14 : Hid (Blk x14 T 30 #[.slice none 0 0, .slice none 0 0, .int .i64 0]) := by show Blk _ _ _ _; rw [← hTe.out, ← hx14]; exact Blk.new' rfl
             rw [hx14, hTe.out]
             have hMx14 : Hid (Blk x14 M 5 Z) := hMx1.out.fr (Fr.of_below (F := fun _ => False) hsx14.out) (fun h => h)
             have hWx14 : Hid (Wk x14 (fun i => i = G ∨ w3.heap.size ≤ i) G (Sy.body q)) := hWx1.out.fr (Fr.of_below (F := fun _ => False) hsx14.out) (fun _ _ h => h)
             have hAx14 : Hid (Below wr.heap.size wr x14) := hAx1.out.trans (hsx14.out.mono hAx1.out.size)
             clear hMx1 hWx1 hAx1
             clear hx14 hTe hsx14
             refine And.intro (.inr trivial) ?_
             simp only
             refine wpQuiet_nil (wpQuiet_nil ?_)
             go_wp2_with fail
             refine (wdata_k x14 hWx14.out hbl.out).mono ?_
             rintro e x15 ⟨A7, c7, rfl, ho, hb⟩
             have hsx15 : Hid (Below x14.heap.size x14 x15) := hb
             have hRx15 : Hid (Rd x15 (fun _ => True) A7 (Sy.body q).length c7 (Sy.body q)) := (own_rd ho).mono (fun _ _ _ => trivial)
             have hMx15 : Hid (Blk x15 M 5 Z) := hMx14.out.fr (Fr.of_below (F := fun _ => False) hsx15.out) (fun h => h)
             have hTx15 : Hid (Blk x15 T 30 #[.slice none 0 0, .slice none 0 0, .int .i64 0]) := hTx14.out.fr (Fr.of_below (F := fun _ => False) hsx15.out) (fun h => h)
             have hAx15 : Hid (Below wr.heap.size wr x15) := hAx14.out.trans (hsx15.out.mono hAx14.out.size)
             clear hMx14 hWx14 hTx14 hAx14
             clear ho hb hsx15
             go_wp2_with fail
             refine And.intro (.inr trivial) ?_
             simp only
             refine wpQuiet_nil (wpQuiet_nil ?_)
             go_wp2_with fail
             refine (sum_any x15 (hKr.out.below hAx15.out hKr.out.pos) hRx15.out hbl2.out).mono ?_
             rintro e x16 ⟨rfl, hb⟩
             have hsx16 : Hid (Below x15.heap.size x15 x16) := hb
             have hMx16 : Hid (Blk x16 M 5 Z) := hMx15.out.fr (Fr.of_below (F := fun _ => False) hsx16.out) (fun h => h)
             have hTx16 : Hid (Blk x16 T 30 #[.slice none 0 0, .slice none 0 0, .int .i64 0]) := hTx15.out.fr (Fr.of_below (F := fun _ => False) hsx16.out) (fun h => h)
             have hAx16 : Hid (Below wr.heap.size wr x16) := hAx15.out.trans (hsx16.out.mono hAx15.out.size)
             clear hMx15 hRx15 hTx15 hAx15
             clear hb hsx16
             go_wp2_with fail
             refine And.intro (.inr trivial) ?_
             simp only
             refine wpQuiet_nil (wpQuiet_nil ?_)
             obtain ⟨D, hDe⟩ : ∃ D, Hid (x16.heap.size = D) := ⟨_, rfl⟩
             have hDle : Hid (wr.heap.size ≤ D) := hDe.out ▸ hAx16.out.size
             have hneDM : Hid (M ≠ D) := fun e => by have := hMx16.out.lt; have := hDe.out; omega
             have hneDT : Hid (T ≠ D) := fun e => by have := hTx16.out.lt; have := hDe.out; omega
             go_wp2_with (refine wpl_bytes_str rfl 9 23 5 (.tmp 27) rfl Tryd.underlying9 Tryd.underlying23 Tryd.underlying5 (Sha.sha (Sy.body q)) rfl hsl.out ?hh)
             case hh =>
              intro k9 x17 hd hg
              have hsx17 : Hid (Below x16.heap.size x16 x17) := (Below.refl _ _).grown hg (Nat.le_refl _) (by intro k hk; cases hk)
              have hDx17 : Hid (Dig x17 D 5 k9 (Sha.sha (Sy.body q))) := by show Dig _ _ _ _ _; rw [← hDe.out]; exact hd
              rw [hDe.out]
              have hMx17 : Hid (Blk x17 M 5 Z) := hMx16.out.fr (Fr.of_below (F := fun _ => False) hsx17.out) (fun h => h)
              have hTx17 : Hid (Blk x17 T 30 #[.slice none 0 0, .slice none 0 0, .int .i64 0]) := hTx16.out.fr (Fr.of_below (F := fun _ => False) hsx17.out) (fun h => h)
              have hAx17 : Hid (Below wr.heap.size wr x17) := hAx16.out.trans (hsx17.out.mono hAx16.out.size)
              clear hMx16 hTx16 hAx16
              clear hd hg hDe hsx17
              go_wp2_with fail
              refine And.intro (.inr trivial) ?_
              simp only
              iterate 1 (go_big_quiet_step (exact fun _ => rfl))
              refine wpQuiet_nil (wpQuiet_nil ?_)
              go_wp2_with (refine wpl_store_new _ rfl 30 (.tmp 9) (.tmp 31) rfl T rfl #[.slice (some ⟨M, 0, none⟩) pn pn, .slice (some ⟨D, 0, none⟩) (Sha.sha (Sy.body q)).length k9, .int .i64 (n3 : Int)] rfl 30 _ hTx17.out (by kernel_rfl) rfl (one3 _ _ _) ?hh)
              case hh =>
               intro x18 hk hg
               have hkd : Hid (Blk x18 T 30 #[.slice (some ⟨M, 0, none⟩) pn pn, .slice (some ⟨D, 0, none⟩) (Sha.sha (Sy.body q)).length k9, .int .i64 (n3 : Int)]) := hk
               have hF : Fr (fun i => i = T) x17 x18 := (Fr.refl _ _).grown hg (fun i e => .inl (Option.some.inj e).symm)
               have hFd := Lib.hid hF
               clear hk hg hF
               go_wp2_with fail
               refine And.intro (.inr trivial) ?_
               simp only
               refine wpQuiet_nil (wpQuiet_nil ?_)
               go_wp2_with fail
               go_meet
               exact ⟨M, D, T, k9, rfl, hMle.out, hDle.out, hTle.out, by first | exact hneMD.out.symm | exact hneDM.out, by first | exact hneMT.out.symm | exact hneTM.out, by first | exact hneDT.out.symm | exact hneTD.out, hMx17.out.fr hFd.out (by first | exact hneMT.out.symm | exact hneTM.out), hDx17.out.fr hFd.out (by first | exact hneDT.out.symm | exact hneTD.out), hkd.out, hAx17.out.trans (hFd.out.below (fun i h => by rw [h]; exact hTle.out) hAx17.out.size)⟩
        · go_wp2_with fail
          refine (wdata_k x0 hWx0.out hbl.out).mono ?_
          rintro e x19 ⟨A7, c7, rfl, ho, hb⟩
          have hsx19 : Hid (Below x0.heap.size x0 x19) := hb
          have hRx19 : Hid (Rd x19 (fun _ => True) A7 (Sy.body q).length c7 (Sy.body q)) := (own_rd ho).mono (fun _ _ _ => trivial)
          have hAx19 : Hid (Below wr.heap.size wr x19) := hAx0.out.trans (hsx19.out.mono hAx0.out.size)
          clear hWx0 hAx0
          clear ho hb hsx19
          go_wp2_with fail
          refine And.intro (.inr trivial) ?_
          simp only
          refine wpQuiet_nil (wpQuiet_nil ?_)
          refine ⟨?_, ?_, ?_⟩
          · obtain ⟨M, hMe⟩ : ∃ M, Hid (x19.heap.size = M) := ⟨_, rfl⟩
            have hMle : Hid (wr.heap.size ≤ M) := hMe.out ▸ hAx19.out.size
            go_wp2_with (refine wpl_make rfl 23 (.tmp 24) (.tmp 24) rfl x19.heap.size 5 (.int .u8 0) 1 Tryd.underlying23 infoByte rfl (by decide) .i64 .i64 pn rfl rfl hmk.out (Nat.le_refl _) ?hh)
            case hh =>
             intro x20 ho hg
             have hsx20 : Hid (Below x19.heap.size x19 x20) := (Below.refl _ _).grown hg (Nat.le_refl _) (by intro k hk; cases hk)
             have hMx20 : Hid (Blk x20 M 5 Z) := by show Blk _ _ _ _; rw [← hMe.out, ← hZ.out]; exact own_blk ho
             rw [hMe.out]
             have hRx20 : Hid (Rd x20 (fun _ => True) A7 (Sy.body q).length c7 (Sy.body q)) := hRx19.out.fr (Fr.of_below (F := fun _ => False) hsx20.out) (fun _ _ h => h)
             have hAx20 : Hid (Below wr.heap.size wr x20) := hAx19.out.trans (hsx20.out.mono hAx19.out.size)
             clear hRx19 hAx19
             clear ho hg hMe hsx20
             go_wp2_with fail
             refine And.intro (.inr trivial) ?_
             simp only
             refine wpQuiet_nil (wpQuiet_nil ?_)
             refine ⟨?_, ?_⟩
             · go_wp2_with fail
               refine (sum_any x20 (hKr.out.below hAx20.out hKr.out.pos) hRx20.out hbl2.out).mono ?_
               rintro e x21 ⟨rfl, hb⟩
               have hsx21 : Hid (Below x20.heap.size x20 x21) := hb
               have hMx21 : Hid (Blk x21 M 5 Z) := hMx20.out.fr (Fr.of_below (F := fun _ => False) hsx21.out) (fun h => h)
               have hAx21 : Hid (Below wr.heap.size wr x21) := hAx20.out.trans (hsx21.out.mono hAx20.out.size)
               clear hMx20 hRx20 hAx20
               clear hb hsx21
               go_wp2_with fail
               refine And.intro (.inr trivial) ?_
               simp only
               refine wpQuiet_nil (wpQuiet_nil ?_)
               refine ⟨?_, ?_⟩
               · obtain ⟨D, hDe⟩ : ∃ D, Hid (x21.heap.size = D) := ⟨_, rfl⟩
                 have hDle : Hid (wr.heap.size ≤ D) := hDe.out ▸ hAx21.out.size
                 have hneDM : Hid (M ≠ D) := fun e => by have := hMx21.out.lt; have := hDe.out; omega
                 go_wp2_with (refine wpl_bytes_str rfl 9 23 5 (.tmp 27) rfl Tryd.underlying9 Tryd.underlying23 Tryd.underlying5 (Sha.sha (Sy.body q)) rfl hsl.out ?hh)
                 case hh =>
                  intro k9 x22 hd hg
                  have hsx22 : Hid (Below x21.heap.size x21 x22) := (Below.refl _ _).grown hg (Nat.le_refl _) (by intro k hk; cases hk)
                  have hDx22 : Hid (Dig x22 D 5 k9 (Sha.sha (Sy.body q))) := by show Dig _ _ _ _ _; rw [← hDe.out]; exact hd
                  rw [hDe.out]
                  have hMx22 : Hid (Blk x22 M 5 Z) := hMx21.out.fr (Fr.of_below (F := fun _ => False) hsx22.out) (fun h => h)
                  have hAx22 : Hid (Below wr.heap.size wr x22) := hAx21.out.trans (hsx22.out.mono hAx21.out.size)
                  clear hMx21 hAx21
                  clear hd hg hDe hsx22
                  go_wp2_with fail
                  refine And.intro (.inr trivial) ?_
                  simp only
                  iterate 1 (go_big_quiet_step (exact fun _ => rfl))
                  refine wpQuiet_nil (wpQuiet_nil ?_)
                  obtain ⟨T, hTe⟩ : ∃ T, Hid (x22.heap.size = T) := ⟨_, rfl⟩
                  have hTle : Hid (wr.heap.size ≤ T) := hTe.out ▸ hAx22.out.size
                  have hneTM : Hid (M ≠ T) := fun e => by have := hMx22.out.lt; have := hTe.out; omega
                  have hneTD : Hid (D ≠ T) := fun e => by have := hDx22.out.lt; have := hTe.out; omega
                  go_wp2_with fail
                  obtain ⟨x23, hx23⟩ : ∃ x, x22.alloc (.cells #[.slice none 0 0, .slice none 0 0, .int .i64 0] 30) = x := ⟨_, rfl⟩
                  have hsx23 : Hid (Below x22.heap.size x22 x23) := by show Below _ _ _; rw [← hx23]; exact (Below.refl _ _).alloc (Nat.le_refl _) _
                  have hTx23 : Hid (Blk x23 T 30 #[.slice none 0 0, .slice none 0 0, .int .i64 0]) := by show Blk _ _ _ _; rw [← hTe.out, ← hx23]; exact Blk.new' rfl
                  rw [hx23, hTe.out]
                  have hMx23 : Hid (Blk x23 M 5 Z) := hMx22.out.fr (Fr.of_below (F := fun _ => False) hsx23.out) (fun h => h)
                  have hDx23 : Hid (Dig x23 D 5 k9 (Sha.sha (Sy.body q))) := hDx22.out.fr (Fr.of_below (F := fun _ => False) hsx23.out) (fun h => h)
                  have hAx23 : Hid (Below wr.heap.size wr x23) := hAx22.out.trans (hsx23.out.mono hAx22.out.size)
                  clear hMx22 hDx22 hAx22
                  clear hx23 hTe hsx23
                  refine And.intro (.inr trivial) ?_
                  simp only
                  refine wpQuiet_nil (wpQuiet_nil ?_)
                  go_wp2_with (refine wpl_store_new _ rfl 30 (.tmp 9) (.tmp 31) rfl T rfl #[.slice (some ⟨M, 0, none⟩) pn pn, .slice (some ⟨D, 0, none⟩) (Sha.sha (Sy.body q)).length k9, .int .i64 (n3 : Int)] rfl 30 _ hTx23.out (by kernel_rfl) rfl (one3 _ _ _) ?hh)
                  case hh =>
                   intro x24 hk hg
                   have hkd : Hid (Blk x24 T 30 #[.slice (some ⟨M, 0, none⟩) pn pn, .slice (some ⟨D, 0, none⟩) (Sha.sha (Sy.body q)).length k9, .int .i64 (n3 : Int)]) := hk
                   have hF : Fr (fun i => i = T) x23 x24 := (Fr.refl _ _).grown hg (fun i e => .inl (Option.some.inj e).symm)
                   have hFd := Lib.hid hF
                   clear hk hg hF
                   go_wp2_with fail
                   refine And.intro (.inr trivial) ?_
                   simp only
                   refine wpQuiet_nil (wpQuiet_nil ?_)
                   go_wp2_with fail
                   go_meet
                   exact ⟨M, D, T, k9, rfl, hMle.out, hDle.out, hTle.out, by first | exact hneMD.out.symm | exact hneDM.out, by first | exact hneMT.out.symm | exact hneTM.out, by first | exact hneDT.out.symm | exact hneTD.out, hMx23.out.fr hFd.out (by first | exact hneMT.out.symm | exact hneTM.out), hDx23.out.fr hFd.out (by first | exact hneDT.out.symm | exact hneTD.out), hkd.out, hAx23.out.trans (hFd.out.below (fun i h => by rw [h]; exact hTle.out) hAx23.out.size)⟩
               · obtain ⟨T, hTe⟩ : ∃ T, Hid (x21.heap.size = T) := ⟨_, rfl⟩
                 have hTle : Hid (wr.heap.size ≤ T) := hTe.out ▸ hAx21.out.size
                 have hneTM : Hid (M ≠ T) := fun e => by have := hMx21.out.lt; have := hTe.out; omega
                 go_wp2_with fail
                 obtain ⟨x25, hx25⟩ : ∃ x, x21.alloc (.cells #[.slice none 0 0, .slice none 0 0, .int .i64 0] 30) = x := ⟨_, rfl⟩
                 have hsx25 : Hid (Below x21.heap.size x21 x25) := by show Below _ _ _; rw [← hx25]; exact (Below.refl _ _).alloc (Nat.le_refl _) _
                 have hTx25 : Hid (Blk x25 T 30 #[.slice none 0 0, .slice none 0 0, .int .i64 0]) := by show Blk _ _ _ _; rw [← hTe.out, ← hx25]; exact Blk.new' rfl
                 rw [hx25, hTe.out]
                 have hMx25 : Hid (Blk x25 M 5 Z) := hMx21.out.fr (Fr.of_below (F := fun _ => False) hsx25.out) (fun h => h)
                 have hAx25 : Hid (Below wr.heap.size wr x25) := hAx21.out.trans (hsx25.out.mono hAx21.out.size)
                 clear hMx21 hAx21
                 clear hx25 hTe hsx25
                 refine And.intro (.inr trivial) ?_
                 simp only
                 refine wpQuiet_nil (wpQuiet_nil ?_)
                 obtain ⟨D, hDe⟩ : ∃ D, Hid (x25.heap.size = D) := ⟨_, rfl⟩
                 have hDle : Hid (wr.heap.size ≤ D) := hDe.out ▸ hAx25.out.size
                 have hneDM : Hid (M ≠ D) := fun e => by have := hMx25.out.lt; have := hDe.out; omega
                 have hneDT : Hid (T ≠ D) := fun e => by have := hTx25.out.lt; have := hDe.out; omega
                 go_wp2_with (refine wpl_bytes_str rfl 9 23 5 (.tmp 27) rfl Tryd.underlying9 Tryd.underlying23 Tryd.underlying5 (Sha.sha (Sy.body q)) rfl hsl.out ?hh)
                 case hh =>
                  intro k9 x26 hd hg
                  have hsx26 : Hid (Below x25.heap.size x25 x26) := (Below.refl _ _).grown hg (Nat.le_refl _) (by intro k hk; cases hk)
                  have hDx26 : Hid (Dig x26 D 5 k9 (Sha.sha (Sy.body q))) := by show Dig _ _ _ _ _; rw [← hDe.out]; exact hd
                  rw [hDe.out]
                  have hMx26 : Hid (Blk x26 M 5 Z) := hMx25.out.fr (Fr.of_below (F := fun _ => False) hsx26.out) (fun h => h)
                  have hTx26 : Hid (Blk x26 T 30 #[.slice none 0 0, .slice none 0 0, .int .i64 0]) := hTx25.out.fr (Fr.of_below (F := fun _ => False) hsx26.out) (fun h => h)
                  have hAx26 : Hid (Below wr.heap.size wr x26) := hAx25.out.trans (hsx26.out.mono hAx25.out.size)
                  clear hMx25 hTx25 hAx25
                  clear hd hg hDe hsx26
                  go_wp2_with fail
                  refine And.intro (.inr trivial) ?_
                  simp only
                  iterate 1 (go_big_quiet_step (exact fun _ => rfl))
                  refine wpQuiet_nil (wpQuiet_nil ?_)
                  go_wp2_with (refine wpl_store_new _ rfl 30 (.tmp 9) (.tmp 31) rfl T rfl #[.slice (some ⟨M, 0, none⟩) pn pn, .slice (some ⟨D, 0, none⟩) (Sha.sha (Sy.body q)).length k9, .int .i64 (n3 : Int)] rfl 30 _ hTx26.out (by kernel_rfl) rfl (one3 _ _ _) ?hh)
                  case hh =>
                   intro x27 hk hg
                   have hkd : Hid (Blk x27 T 30 #[.slice (some ⟨M, 0, none⟩) pn pn, .slice (some ⟨D, 0, none⟩) (Sha.sha (Sy.body q)).length k9, .int .i64 (n3 : Int)]) := hk
                   have hF : Fr (fun i => i = T) x26 x27 := (Fr.refl _ _).grown hg (fun i e => .inl (Option.some.inj e).symm)
                   have hFd := Lib.hid hF
                   clear hk hg hF
                   go_wp2_with fail
                   refine And.intro (.inr trivial) ?_
                   simp only
                   refine wpQuiet_nil (wpQuiet_nil ?_)
                   go_wp2_with fail
                   go_meet
                   exact ⟨M, D, T, k9, rfl, hMle.out, hDle.out, hTle.out, by first | exact hneMD.out.symm | exact hneDM.out, by first | exact hneMT.out.symm | exact hneTM.out, by first | exact hneDT.out.symm | exact hneTD.out, hMx26.out.fr hFd.out (by first | exact hneMT.out.symm | exact hneTM.out), hDx26.out.fr hFd.out (by first | exact hneDT.out.symm | exact hneTD.out), hkd.out, hAx26.out.trans (hFd.out.below (fun i h => by rw [h]; exact hTle.out) hAx26.out.size)⟩
             · obtain ⟨T, hTe⟩ : ∃ T, Hid (x20.heap.size = T) := ⟨_, rfl⟩
               have hTle : Hid (wr.heap.size ≤ T) := hTe.out ▸ hAx20.out.size
               have hneTM : Hid (M ≠ T) := fun e => by have := hMx20.out.lt; have := hTe.out; omega
               go_wp2_with fail
               obtain ⟨x28, hx28⟩ : ∃ x, x20.alloc (.cells #[.slice none 0 0, .slice none 0 0, .int .i64 0] 30) = x := ⟨_, rfl⟩
               have hsx28 : Hid (Below x20.heap.size x20 x28) := by show Below _ _ _; rw [← hx28]; exact (Below.refl _ _).alloc (Nat.le_refl _) _
               have hTx28 : Hid (Blk x28 T 30 #[.slice none 0 0, .slice none 0 0, .int .i64 0]) := by show Blk _ _ _ _; rw [← hTe.out, ← hx28]; exact Blk.new' rfl
               rw [hx28, hTe.out]
               have hMx28 : Hid (Blk x28 M 5 Z) := hMx20.out.fr (Fr.of_below (F := fun _ => False) hsx28.out) (fun h => h)
               have hRx28 : Hid (Rd x28 (fun _ => True) A7 (Sy.body q).length c7 (Sy.body q)) := hRx20.out.fr (Fr.of_below (F := fun _ => False) hsx28.out) (fun _ _ h => h)
               have hAx28 : Hid (Below wr.heap.size wr x28) := hAx20.out.trans (hsx28.out.mono hAx20.out.size)
               clear hMx20 hRx20 hAx20
               clear hx28 hTe hsx28
               refine And.intro (.inr trivial) ?_
               simp only
               refine wpQuiet_nil (wpQuiet_nil ?_)
               go_wp2_with fail
               refine (sum_any x28 (hKr.out.below hAx28.out hKr.out.pos) hRx28.out hbl2.out).mono ?_
               rintro e x29 ⟨rfl, hb⟩
               have hsx29 : Hid (Below x28.heap.size x28 x29) := hb
               have hMx29 : Hid (Blk x29 M 5 Z) := hMx28.out.fr (Fr.of_below (F := fun _ => False) hsx29.out) (fun h => h)
               have hTx29 : Hid (Blk x29 T 30 #[.slice none 0 0, .slice none 0 0, .int .i64 0]) := hTx28.out.fr (Fr.of_below (F := fun _ => False) hsx29.out) (fun h => h)
               have hAx29 : Hid (Below wr.heap.size wr x29) := hAx28.out.trans (hsx29.out.mono hAx28.out.size)
               clear hMx28 hRx28 hTx28 hAx28
               clear hb hsx29
               go_wp2_with fail
               refine And.intro (.inr trivial) ?_
               simp only
               refine wpQuiet_nil (wpQuiet_nil ?_)
               obtain ⟨D, hDe⟩ : ∃ D, Hid (x29.heap.size = D) := ⟨_, rfl⟩
               have hDle : Hid (wr.heap.size ≤ D) := hDe.out ▸ hAx29.out.size
               have hneDM : Hid (M ≠ D) := fun e => by have := hMx29.out.lt; have := hDe.out; omega
               have hneDT : Hid (T ≠ D) := fun e => by have := hTx29.out.lt; have := hDe.out; omega
               go_wp2_with (refine wpl_bytes_str rfl 9 23 5 (.tmp 27) rfl Tryd.underlying9 Tryd.underlying23 Tryd.underlying5 (Sha.sha (Sy.body q)) rfl hsl.out ?hh)
               case hh =>
                intro k9 x30 hd hg
                have hsx30 : Hid (Below x29.heap.size x29 x30) := (Below.refl _ _).grown hg (Nat.le_refl _) (by intro k hk; cases hk)
                have hDx30 : Hid (Dig x30 D 5 k9 (Sha.sha (Sy.body q))) := by show Dig _ _ _ _ _; rw [← hDe.out]; exact hd
                rw [hDe.out]
                have hMx30 : Hid (Blk x30 M 5 Z) := hMx29.out.fr (Fr.of_below (F := fun _ => False) hsx30.out) (fun h => h)
                have hTx30 : Hid (Blk x30 T 30 #[.slice none 0 0, .slice none 0 0, .int .i64 0]) := hTx29.out.fr (Fr.of_below (F := fun _ => False) hsx30.out) (fun h => h)
                have hAx30 : Hid (Below wr.heap.size wr x30) := hAx29.out.trans (hsx30.out.mono hAx29.out.size)
                clear hMx29 hTx29 hAx29
                clear hd hg hDe hsx30
                go_wp2_with fail
                refine And.intro (.inr trivial) ?_
                simp only
                iterate 1 (go_big_quiet_step (exact fun _ => rfl))
                refine wpQuiet_nil (wpQuiet_nil ?_)
                go_wp2_with (refine wpl_store_new _ rfl 30 (.tmp 9) (.tmp 31) rfl T rfl #[.slice (some ⟨M, 0, none⟩) pn pn, .slice (some ⟨D, 0, none⟩) (Sha.sha (Sy.body q)).length k9, .int .i64 (n3 : Int)] rfl 30 _ hTx30.out (by kernel_rfl) rfl (one3 _ _ _) ?hh)
                case hh =>
                 intro x31 hk hg
                 have hkd : Hid (Blk x31 T 30 #[.slice (some ⟨M, 0, none⟩) pn pn, .slice (some ⟨D, 0, none⟩) (Sha.sha (Sy.body q)).length k9, .int .i64 (n3 : Int)]) := hk
                 have hF : Fr (fun i => i = T) x30 x31 := (Fr.refl _ _).grown hg (fun i e => .inl (Option.some.inj e).symm)
                 have hFd := Lib.hid hF
                 clear hk hg hF
                 go_wp2_with fail
                 refine And.intro (.inr trivial) ?_
                 simp only
                 refine wpQuiet_nil (wpQuiet_nil ?_)
                 go_wp2_with fail
                 go_meet
                 exact ⟨M, D, T, k9, rfl, hMle.out, hDle.out, hTle.out, by first | exact hneMD.out.symm | exact hneDM.out, by first | exact hneMT.out.symm | exact hneTM.out, by first | exact hneDT.out.symm | exact hneTD.out, hMx30.out.fr hFd.out (by first | exact hneMT.out.symm | exact hneTM.out), hDx30.out.fr hFd.out (by first | exact hneDT.out.symm | exact hneTD.out), hkd.out, hAx30.out.trans (hFd.out.below (fun i h => by rw [h]; exact hTle.out) hAx30.out.size)⟩
          · go_wp2_with fail
            refine (sum_any x19 (hKr.out.below hAx19.out hKr.out.pos) hRx19.out hbl2.out).mono ?_
            rintro e x32 ⟨rfl, hb⟩
            have hsx32 : Hid (Below x19.heap.size x19 x32) := hb
            have hAx32 : Hid (Below wr.heap.size wr x32) := hAx19.out.trans (hsx32.out.mono hAx19.out.size)
            clear hRx19 hAx19
            clear hb hsx32
            go_wp2_with fail
            refine And.intro (.inr trivial) ?_
            simp only
            refine wpQuiet_nil (wpQuiet_nil ?_)
            refine ⟨?_, ?_, ?_⟩
            · obtain ⟨M, hMe⟩ : ∃ M, Hid (x32.heap.size = M) := ⟨_, rfl⟩
              have hMle : Hid (wr.heap.size ≤ M) := hMe.out ▸ hAx32.out.size
              go_wp2_with (refine wpl_make rfl 23 (.tmp 24) (.tmp 24) rfl x32.heap.size 5 (.int .u8 0) 1 Tryd.underlying23 infoByte rfl (by decide) .i64 .i64 pn rfl rfl hmk.out (Nat.le_refl _) ?hh)
              case hh =>
               intro x33 ho hg
               have hsx33 : Hid (Below x32.heap.size x32 x33) := (Below.refl _ _).grown hg (Nat.le_refl _) (by intro k hk; cases hk)
               have hMx33 : Hid (Blk x33 M 5 Z) := by show Blk _ _ _ _; rw [← hMe.out, ← hZ.out]; exact own_blk ho
               rw [hMe.out]
               have hAx33 : Hid (Below wr.heap.size wr x33) := hAx32.out.trans (hsx33.out.mono hAx32.out.size)
               clear hAx32
               clear ho hg hMe hsx33
               go_wp2_with fail
               refine And.intro (.inr trivial) ?_
               simp only
               refine wpQuiet_nil (wpQuiet_nil ?_)
               refine ⟨?_, ?_⟩
               · obtain ⟨D, hDe⟩ : ∃ D, Hid (x33.heap.size = D) := ⟨_, rfl⟩
                 have hDle : Hid (wr.heap.size ≤ D) := hDe.out ▸ hAx33.out.size
                 have hneDM : Hid (M ≠ D) := fun e => by have := hMx33.out.lt; have := hDe.out; omega
                 go_wp2_with (refine wpl_bytes_str rfl 9 23 5 (.tmp 27) rfl Tryd.underlying9 Tryd.underlying23 Tryd.underlying5 (Sha.sha (Sy.body q)) rfl hsl.out ?hh)
                 case hh =>
                  intro k9 x34 hd hg
                  have hsx34 : Hid (Below x33.heap.size x33 x34) := (Below.refl _ _).grown hg (Nat.le_refl _) (by intro k hk; cases hk)
                  have hDx34 : Hid (Dig x34 D 5 k9 (Sha.sha (Sy.body q))) := by show Dig _ _ _ _ _; rw [← hDe.out]; exact hd
                  rw [hDe.out]
                  have hMx34 : Hid (Blk x34 M 5 Z) := hMx33.out.fr (Fr.of_below (F := fun _ => False) hsx34.out) (fun h => h)
                  have hAx34 : Hid (Below wr.heap.size wr x34) := hAx33.out.trans (hsx34.out.mono hAx33.out.size)
                  clear hMx33 hAx33
                  clear hd hg hDe hsx34
                  go_wp2_with fail
                  refine And.intro (.inr trivial) ?_
                  simp only
                  iterate 1 (go_big_quiet_step (exact fun _ => rfl))
                  refine wpQuiet_nil (wpQuiet_nil ?_)
                  obtain ⟨T, hTe⟩ : ∃ T, Hid (x34.heap.size = T) := ⟨_, rfl⟩
                  have hTle : Hid (wr.heap.size ≤ T) := hTe.out ▸ hAx34.out.size
                  have hneTM : Hid (M ≠ T) := fun e => by have := hMx34.out.lt; have := hTe.out; omega
                  have hneTD : Hid (D ≠ T) := fun e => by have := hDx34.out.lt; have := hTe.out; omega
                  go_wp2_with fail
                  obtain ⟨x35, hx35⟩ : ∃ x, x34.alloc (.cells #[.slice none 0 0, .slice none 0 0, .int .i64 0] 30) = x := ⟨_, rfl⟩
                  have hsx35 : Hid (Below x34.heap.size x34 x35) := by show Below _ _ _; rw [← hx35]; exact (Below.refl _ _).alloc (Nat.le_refl _) _
                  have hTx35 : Hid (Blk x35 T 30 #[.slice none 0 0, .slice none 0 0, .int .i64 0]) := by show Blk _ _ _ _; rw [← hTe.out, ← hx35]; exact Blk.new' rfl
                  rw [hx35, hTe.out]
                  have hMx35 : Hid (Blk x35 M 5 Z) := hMx34.out.fr (Fr.of_below (F := fun _ => False) hsx35.out) (fun h => h)
                  have hDx35 : Hid (Dig x35 D 5 k9 (Sha.sha (Sy.body q))) := hDx34.out.fr (Fr.of_below (F := fun _ => False) hsx35.out) (fun h => h)
                  have hAx35 : Hid (Below wr.heap.size wr x35) := hAx34.out.trans (hsx35.out.mono hAx34.out.size)
                  clear hMx34 hDx34 hAx34
                  clear hx35 hTe hsx35
                  refine And.intro (.inr trivial) ?_
                  simp only
                  refine wpQuiet_nil (wpQuiet_nil ?_)
                  go_wp2_with (refine wpl_store_new _ rfl 30 (.tmp 9) (.tmp 31) rfl T rfl #[.slice (some ⟨M, 0, none⟩) pn pn, .slice (some ⟨D, 0, none⟩) (Sha.sha (Sy.body q)).length k9, .int .i64 (n3 : Int)] rfl 30 _ hTx35.out (by kernel_rfl) rfl (one3 _ _ _) ?hh)
                  case hh =>
                   intro x36 hk hg
                   have hkd : Hid (Blk x36 T 30 #[.slice (some ⟨M, 0, none⟩) pn pn, .slice (some ⟨D, 0, none⟩) (Sha.sha (Sy.body q)).length k9, .int .i64 (n3 : Int)]) := hk
                   have hF : Fr (fun i => i = T) x35 x36 := (Fr.refl _ _).grown hg (fun i e => .inl (Option.some.inj e).symm)
                   have hFd := Lib.hid hF
                   clear hk hg hF
                   go_wp2_with fail
                   refine And.intro (.inr trivial) ?_
                   simp only
                   refine wpQuiet_nil (wpQuiet_nil ?_)
                   go_wp2_with fail
                   go_meet
                   exact ⟨M, D, T, k9, rfl, hMle.out, hDle.out, hTle.out, by first | exact hneMD.out.symm | exact hneDM.out, by first | exact hneMT.out.symm | exact hneTM.out, by first | exact hneDT.out.symm | exact hneTD.out, hMx35.out.fr hFd.out (by first | exact hneMT.out.symm | exact hneTM.out), hDx35.out.fr hFd.out (by first | exact hneDT.out.symm | exact hneTD.out), hkd.out, hAx35.out.trans (hFd.out.below (fun i h => by rw [h]; exact hTle.out) hAx35.out.size)⟩
               · obtain ⟨T, hTe⟩ : ∃ T, Hid (x33.heap.size = T) := ⟨_, rfl⟩
                 have hTle : Hid (wr.heap.size ≤ T) := hTe.out ▸ hAx33.out.size
                 have hneTM : Hid (M ≠ T) := fun e => by have := hMx33.out.lt; have := hTe.out; omega
                 go_wp2_with fail
                 obtain ⟨x37, hx37⟩ : ∃ x, x33.alloc (.cells #[.slice none 0 0, .slice none 0 0, .int .i64 0] 30) = x := ⟨_, rfl⟩
                 have hsx37 : Hid (Below x33.heap.size x33 x37) := by show Below _ _ _; rw [← hx37]; exact (Below.refl _ _).alloc (Nat.le_refl _) _
                 have hTx37 : Hid (Blk x37 T 30 #[.slice none 0 0, .slice none 0 0, .int .i64 0]) := by show Blk _ _ _ _; rw [← hTe.out, ← hx37]; exact Blk.new' rfl
                 rw [hx37, hTe.out]
                 have hMx37 : Hid (Blk x37 M 5 Z) := hMx33.out.fr (Fr.of_below (F := fun _ => False) hsx37.out) (fun h => h)
                 have hAx37 : Hid (Below wr.heap.size wr x37) := hAx33.out.trans (hsx37.out.mono hAx33.out.size)
                 clear hMx33 hAx33
                 clear hx37 hTe hsx37
                 refine And.intro (.inr trivial) ?_
                 simp only
                 refine wpQuiet_nil (wpQuiet_nil ?_)
                 obtain ⟨D, hDe⟩ : ∃ D, Hid (x37.heap.size = D) := ⟨_, rfl⟩
                 have hDle : Hid (wr.heap.size ≤ D) := hDe.out ▸ hAx37.out.size
                 have hneDM : Hid (M ≠ D) := fun e => by have := hMx37.out.lt; have := hDe.out; omega
                 have hneDT : Hid (T ≠ D) := fun e => by have := hTx37.out.lt; have := hDe.out; omega
                 go_wp2_with (refine wpl_bytes_str rfl 9 23 5 (.tmp 27) rfl Tryd.underlying9 Tryd.underlying23 Tryd.underlying5 (Sha.sha (Sy.body q)) rfl hsl.out ?hh)
                 case hh =>
                  intro k9 x38 hd hg
                  have hsx38 : Hid (Below x37.heap.size x37 x38) := (Below.refl _ _).grown hg (Nat.le_refl _) (by intro k hk; cases hk)
                  have hDx38 : Hid (Dig x38 D 5 k9 (Sha.sha (Sy.body q))) := by show Dig _ _ _ _ _; rw [← hDe.out]; exact hd
                  rw [hDe.out]
                  have hMx38 : Hid (Blk x38 M 5 Z) := hMx37.out.fr (Fr.of_below (F := fun _ => False) hsx38.out) (fun h => h)
                  have hTx38 : Hid (Blk x38 T 30 #[.slice none 0 0, .slice none 0 0, .int .i64 0]) := hTx37.out.fr (Fr.of_below (F := fun _ => False) hsx38.out) (fun h => h)
                  have hAx38 : Hid (Below wr.heap.size wr x38) := hAx37.out.trans (hsx38.out.mono hAx37.out.size)
                  clear hMx37 hTx37 hAx37
                  clear hd hg hDe hsx38
                  go_wp2_with fail
                  refine And.intro (.inr trivial) ?_
                  simp only
                  iterate 1 (go_big_quiet_step (exact fun _ => rfl))
                  refine wpQuiet_nil (wpQuiet_nil ?_)
                  go_wp2_with (refine wpl_store_new _ rfl 30 (.tmp 9) (.tmp 31) rfl T rfl #[.slice (some ⟨M, 0, none⟩) pn pn, .slice (some ⟨D, 0, none⟩) (Sha.sha (Sy.body q)).length k9, .int .i64 (n3 : Int)] rfl 30 _ hTx38.out (by kernel_rfl) rfl (one3 _ _ _) ?hh)
                  case hh =>
                   intro x39 hk hg
                   have hkd : Hid (Blk x39 T 30 #[.slice (some ⟨M, 0, none⟩) pn pn, .slice (some ⟨D, 0, none⟩) (Sha.sha (Sy.body q)).length k9, .int .i64 (n3 : Int)]) := hk
                   have hF : Fr (fun i => i = T) x38 x39 := (Fr.refl _ _).grown hg (fun i e => .inl (Option.some.inj e).symm)
                   have hFd := Lib.hid hF
                   clear hk hg hF
                   go_wp2_with fail
                   refine And.intro (.inr trivial) ?_
                   simp only
                   refine wpQuiet_nil (wpQuiet_nil ?_)
                   go_wp2_with fail
                   go_meet
                   exact ⟨M, D, T, k9, rfl, hMle.out, hDle.out, hTle.out, by first | exact hneMD.out.symm | exact hneDM.out, by first | exact hneMT.out.symm | exact hneTM.out, by first | exact hneDT.out.symm | exact hneTD.out, hMx38.out.fr hFd.out (by first | exact hneMT.out.symm | exact hneTM.out), hDx38.out.fr hFd.out (by first | exact hneDT.out.symm | exact hneTD.out), hkd.out, hAx38.out.trans (hFd.out.below (fun i h => by rw [h]; exact hTle.out) hAx38.out.size)⟩
            · obtain ⟨D, hDe⟩ : ∃ D, Hid (x32.heap.size = D) := ⟨_, rfl⟩
              have hDle : Hid (wr.heap.size ≤ D) := hDe.out ▸ hAx32.out.size
              go_wp2_with (refine wpl_bytes_str rfl 9 23 5 (.tmp 27) rfl Tryd.underlying9 Tryd.underlying23 Tryd.underlying5 (Sha.sha (Sy.body q)) rfl hsl.out ?hh)
              case hh =>
               intro k9 x40 hd hg
               have hsx40 : Hid (Below x32.heap.size x32 x40) := (Below.refl _ _).grown hg (Nat.le_refl _) (by intro k hk; cases hk)
               have hDx40 : Hid (Dig x40 D 5 k9 (Sha.sha (Sy.body q))) := by show Dig _ _ _ _ _; rw [← hDe.out]; exact hd
               rw [hDe.out]
               have hAx40 : Hid (Below wr.heap.size wr x40) := hAx32.out.trans (hsx40.out.mono hAx32.out.size)
               clear hAx32
               clear hd hg hDe hsx40
               go_wp2_with fail
               refine And.intro (.inr trivial) ?_
               simp only
               refine wpQuiet_nil (wpQuiet_nil ?_)
               refine ⟨?_, ?_⟩
               · obtain ⟨M, hMe⟩ : ∃ M, Hid (x40.heap.size = M) := ⟨_, rfl⟩
                 have hMle : Hid (wr.heap.size ≤ M) := hMe.out ▸ hAx40.out.size
                 have hneMD : Hid (D ≠ M) := fun e => by have := hDx40.out.lt; have := hMe.out; omega
                 go_wp2_with (refine wpl_make rfl 23 (.tmp 24) (.tmp 24) rfl x40.heap.size 5 (.int .u8 0) 1 Tryd.underlying23 infoByte rfl (by decide) .i64 .i64 pn rfl rfl hmk.out (Nat.le_refl _) ?hh)
                 case hh =>
                  intro x41 ho hg
                  have hsx41 : Hid (Below x40.heap.size x40 x41) := (Below.refl _ _).grown hg (Nat.le_refl _) (by intro k hk; cases hk)
                  have hMx41 : Hid (Blk x41 M 5 Z) := by show Blk _ _ _ _; rw [← hMe.out, ← hZ.out]; exact own_blk ho
                  rw [hMe.out]
                  have hDx41 : Hid (Dig x41 D 5 k9 (Sha.sha (Sy.body q))) := hDx40.out.fr (Fr.of_below (F := fun _ => False) hsx41.out) (fun h => h)
                  have hAx41 : Hid (Below wr.heap.size wr x41) := hAx40.out.trans (hsx41.out.mono hAx40.out.size)
                  clear hDx40 hAx40
                  clear ho hg hMe hsx41
                  go_wp2_with fail
                  refine And.intro (.inr trivial) ?_
                  simp only
                  iterate 1 (go_big_quiet_step (exact fun _ => rfl))
                  refine wpQuiet_nil (wpQuiet_nil ?_)
                  obtain ⟨T, hTe⟩ : ∃ T, Hid (x41.heap.size = T) := ⟨_, rfl⟩
                  have hTle : Hid (wr.heap.size ≤ T) := hTe.out ▸ hAx41.out.size
                  have hneTM : Hid (M ≠ T) := fun e => by have := hMx41.out.lt; have := hTe.out; omega
                  have hneTD : Hid (D ≠ T) := fun e => by have := hDx41.out.lt; have := hTe.out; omega
                  go_wp2_with fail
                  obtain ⟨x42, hx42⟩ : ∃ x, x41.alloc (.cells #[.slice none 0 0, .slice none 0 0, .int .i64 0] 30) = x := ⟨_, rfl⟩
                  have hsx42 : Hid (Below x41.heap.size x41 x42) := by show Below _ _ _; rw [← hx42]; exact (Below.refl _ _).alloc (Nat.le_refl _) _
                  have hTx42 : Hid (Blk x42 T 30 #[.slice none 0 0, .slice none 0 0, .int .i64 0]) := by show Blk _ _ _ _; rw [← hTe.out, ← hx42]; exact Blk.new' rfl
                  rw [hx42, hTe.out]
                  have hMx42 : Hid (Blk x42 M 5 Z) := hMx41.out.fr (Fr.of_below (F := fun _ => False) hsx42.out) (fun h => h)
                  have hDx42 : Hid (Dig x42 D 5 k9 (Sha.sha (Sy.body q))) := hDx41.out.fr (Fr.of_below (F := fun _ => False) hsx42.out) (fun h => h)
                  have hAx42 : Hid (Below wr.heap.size wr x42) := hAx41.out.trans (hsx42.out.mono hAx41.out.size)
                  clear hMx41 hDx41 hAx41
                  clear hx42 hTe hsx42
                  refine And.intro (.inr trivial) ?_
                  simp only
                  refine wpQuiet_nil (wpQuiet_nil ?_)
                  go_wp2_with (refine wpl_store_new _ rfl 30 (.tmp 9) (.tmp 31) rfl T rfl #[.slice (some ⟨M, 0, none⟩) pn pn, .slice (some ⟨D, 0, none⟩) (Sha.sha (Sy.body q)).length k9, .int .i64 (n3 : Int)] rfl 30 _ hTx42.out (by kernel_rfl) rfl (one3 _ _ _) ?hh)
                  case hh =>
                   intro x43 hk hg
                   have hkd : Hid (Blk x43 T 30 #[.slice (some ⟨M, 0, none⟩) pn pn, .slice (some ⟨D, 0, none⟩) (Sha.sha (Sy.body q)).length k9, .int .i64 (n3 : Int)]) := hk
                   have hF : Fr (fun i => i = T) x42 x43 := (Fr.refl _ _).grown hg (fun i e => .inl (Option.some.inj e).symm)
                   have hFd := Lib.hid hF
                   clear hk hg hF
                   go_wp2_with fail
                   refine And.intro (.inr trivial) ?_
                   simp only
                   refine wpQuiet_nil (wpQuiet_nil ?_)
                   go_wp2_with fail
                   go_meet
                   exact ⟨M, D, T, k9, rfl, hMle.out, hDle.out, hTle.out, by first | exact hneMD.out.symm | exact hneDM.out, by first | exact hneMT.out.symm | exact hneTM.out, by first | exact hneDT.out.symm | exact hneTD.out, hMx42.out.fr hFd.out (by first | exact hneMT.out.symm | exact hneTM.out), hDx42.out.fr hFd.out (by first | exact hneDT.out.symm | exact hneTD.out), hkd.out, hAx42.out.trans (hFd.out.below (fun i h => by rw [h]; exact hTle.out) hAx42.out.size)⟩
               · obtain ⟨T, hTe⟩ : ∃ T, Hid (x40.heap.size = T) := ⟨_, rfl⟩
                 have hTle : Hid (wr.heap.size ≤ T) := hTe.out ▸ hAx40.out.size
                 have hneTD : Hid (D ≠ T) := fun e => by have := hDx40.out.lt; have := hTe.out; omega
                 go_wp2_with fail
                 obtain ⟨x44, hx44⟩ : ∃ x, x40.alloc (.cells #[.slice none 0 0, .slice none 0 0, .int .i64 0] 30) = x := ⟨_, rfl⟩
                 have hsx44 : Hid (Below x40.heap.size x40 x44) := by show Below _ _ _; rw [← hx44]; exact (Below.refl _ _).alloc (Nat.le_refl _) _
                 have hTx44 : Hid (Blk x44 T 30 #[.slice none 0 0, .slice none 0 0, .int .i64 0]) := by show Blk _ _ _ _; rw [← hTe.out, ← hx44]; exact Blk.new' rfl
                 rw [hx44, hTe.out]
                 have hDx44 : Hid (Dig x44 D 5 k9 (Sha.sha (Sy.body q))) := hDx40.out.fr (Fr.of_below (F := fun _ => False) hsx44.out) (fun h => h)
                 have hAx44 : Hid (Below wr.heap.size wr x44) := hAx40.out.trans (hsx44.out.mono hAx40.out.size)
                 clear hDx40 hAx40
                 clear hx44 hTe hsx44
                 refine And.intro (.inr trivial) ?_
                 simp only
                 refine wpQuiet_nil (wpQuiet_nil ?_)
                 obtain ⟨M, hMe⟩ : ∃ M, Hid (x44.heap.size = M) := ⟨_, rfl⟩
                 have hMle : Hid (wr.heap.size ≤ M) := hMe.out ▸ hAx44.out.size
                 have hneMD : Hid (D ≠ M) := fun e => by have := hDx44.out.lt; have := hMe.out; omega
                 have hneMT : Hid (T ≠ M) := fun e => by have := hTx44.out.lt; have := hMe.out; omega
                 go_wp2_with (refine wpl_make rfl 23 (.tmp 24) (.tmp 24) rfl x44.heap.size 5 (.int .u8 0) 1 Tryd.underlying23 infoByte rfl (by decide) .i64 .i64 pn rfl rfl hmk.out (Nat.le_refl _) ?hh)
                 case hh =>
                  intro x45 ho hg
                  have hsx45 : Hid (Below x44.heap.size x44 x45) := (Below.refl _ _).grown hg (Nat.le_refl _) (by intro k hk; cases hk)
                  have hMx45 : Hid (Blk x45 M 5 Z) := by show Blk _ _ _ _; rw [← hMe.out, ← hZ.out]; exact own_blk ho
                  rw [hMe.out]
                  have hDx45 : Hid (Dig x45 D 5 k9 (Sha.sha (Sy.body q))) := hDx44.out.fr (Fr.of_below (F := fun _ => False) hsx45.out) (fun h => h)
                  have hTx45 : Hid (Blk x45 T 30 #[.slice none 0 0, .slice none 0 0, .int .i64 0]) := hTx44.out.fr (Fr.of_below (F := fun _ => False) hsx45.out) (fun h => h)
                  have hAx45 : Hid (Below wr.heap.size wr x45) := hAx44.out.trans (hsx45.out.mono hAx44.out.size)
                  clear hDx44 hTx44 hAx44
                  clear ho hg hMe hsx45
                  go_wp2_with fail
                  refine And.intro (.inr trivial) ?_
                  simp only
                  iterate 1 (go_big_quiet_step (exact fun _ => rfl))
                  refine wpQuiet_nil (wpQuiet_nil ?_)
                  go_wp2_with (refine wpl_store_new _ rfl 30 (.tmp 9) (.tmp 31) rfl T rfl #[.slice (some ⟨M, 0, none⟩) pn pn, .slice (some ⟨D, 0, none⟩) (Sha.sha (Sy.body q)).length k9, .int .i64 (n3 : Int)] rfl 30 _ hTx45.out (by kernel_rfl) rfl (one3 _ _ _) ?hh)
                  case hh =>
                   intro x46 hk hg
                   have hkd : Hid (Blk x46 T 30 #[.slice (some ⟨M, 0, none⟩) pn pn, .slice (some ⟨D, 0, none⟩) (Sha.sha (Sy.body q)).length k9, .int .i64 (n3 : Int)]) := hk
                   have hF : Fr (fun i => i = T) x45 x46 := (Fr.refl _ _).grown hg (fun i e => .inl (Option.some.inj e).symm)
                   have hFd := Lib.hid hF
                   clear hk hg hF
                   go_wp2_with fail
                   refine And.intro (.inr trivial) ?_
                   simp only
                   refine wpQuiet_nil (wpQuiet_nil ?_)
                   go_wp2_with fail
                   go_meet
                   exact ⟨M, D, T, k9, rfl, hMle.out, hDle.out, hTle.out, by first | exact hneMD.out.symm | exact hneDM.out, by first | exact hneMT.out.symm | exact hneTM.out, by first | exact hneDT.out.symm | exact hneTD.out, hMx45.out.fr hFd.out (by first | exact hneMT.out.symm | exact hneTM.out), hDx45.out.fr hFd.out (by first | exact hneDT.out.symm | exact hneTD.out), hkd.out, hAx45.out.trans (hFd.out.below (fun i h => by rw [h]; exact hTle.out) hAx45.out.size)⟩
            · obtain ⟨T, hTe⟩ : ∃ T, Hid (x32.heap.size = T) := ⟨_, rfl⟩
              have hTle : Hid (wr.heap.size ≤ T) := hTe.out ▸ hAx32.out.size
              go_wp2_with fail
              obtain ⟨x47, hx47⟩ : ∃ x, x32.alloc (.cells #[.slice none 0 0, .slice none 0 0, .int .i64 0] 30) = x := ⟨_, rfl⟩
              have hsx47 : Hid (Below x32.heap.size x32 x47) := by show Below _ _ _; rw [← hx47]; exact (Below.refl _ _).alloc (Nat.le_refl _) _
              have hTx47 : Hid (Blk x47 T 30 #[.slice none 0 0, .slice none 0 0, .int .i64 0]) := by show Blk _ _ _ _; rw [← hTe.out, ← hx47]; exact Blk.new' rfl
              rw [hx47, hTe.out]
              have hAx47 : Hid (Below wr.heap.size wr x47) := hAx32.out.trans (hsx47.out.mono hAx32.out.size)
              clear hAx32
              clear hx47 hTe hsx47
              refine And.intro (.inr trivial) ?_
              simp only
              refine wpQuiet_nil (wpQuiet_nil ?_)
              refine ⟨?_, ?_⟩
              · obtain ⟨M, hMe⟩ : ∃ M, Hid (x47.heap.size = M) := ⟨_, rfl⟩
                have hMle : Hid (wr.heap.size ≤ M) := hMe.out ▸ hAx47.out.size
                have hneMT : Hid (T ≠ M) := fun e => by have := hTx47.out.lt; have := hMe.out; omega
                go_wp2_with (refine wpl_make rfl 23 (.tmp 24) (.tmp 24) rfl x47.heap.size 5 (.int .u8 0) 1 Tryd.underlying23 infoByte rfl (by decide) .i64 .i64 pn rfl rfl hmk.out (Nat.le_refl _) ?hh)
                case hh =>
                 intro x48 ho hg
                 have hsx48 : Hid (Below x47.heap.size x47 x48) := (Below.refl _ _).grown hg (Nat.le_refl _) (by intro k hk; cases hk)
                 have hMx48 : Hid (Blk x48 M 5 Z) := by show Blk _ _ _ _; rw [← hMe.out, ← hZ.out]; exact own_blk ho
                 rw [hMe.out]
                 have hTx48 : Hid (Blk x48 T 30 #[.slice none 0 0, .slice none 0 0, .int .i64 0]) := hTx47.out.fr (Fr.of_below (F := fun _ => False) hsx48.out) (fun h => h)
                 have hAx48 : Hid (Below wr.heap.size wr x48) := hAx47.out.trans (hsx48.out.mono hAx47.out.size)
                 clear hTx47 hAx47
                 clear ho hg hMe hsx48
                 go_wp2_with fail
                 refine And.intro (.inr trivial) ?_
                 simp only
                 refine wpQuiet_nil (wpQuiet_nil ?_)
                 obtain ⟨D, hDe⟩ : ∃ D, Hid (x48.heap.size = D) := ⟨_, rfl⟩
                 have hDle : Hid (wr.heap.size ≤ D) := hDe.out ▸ hAx48.out.size
                 have hneDM : Hid (M ≠ D) := fun e => by have := hMx48.out.lt; have := hDe.out; omega
                 have hneDT : Hid (T ≠ D) := fun e => by have := hTx48.out.lt; have := hDe.out; omega
                 go_wp2_with (refine wpl_bytes_str rfl 9 23 5 (.tmp 27) rfl Tryd.underlying9 Tryd.underlying23 Tryd.underlying5 (Sha.sha (Sy.body q)) rfl hsl.out ?hh)
                 case hh =>
                  intro k9 x49 hd hg
                  have hsx49 : Hid (Below x48.heap.size x48 x49) := (Below.refl _ _).grown hg (Nat.le_refl _) (by intro k hk; cases hk)
                  have hDx49 : Hid (Dig x49 D 5 k9 (Sha.sha (Sy.body q))) := by show Dig _ _ _ _ _; rw [← hDe.out]; exact hd
                  rw [hDe.out]
                  have hMx49 : Hid (Blk x49 M 5 Z) := hMx48.out.fr (Fr.of_below (F := fun _ => False) hsx49.out) (fun h => h)
                  have hTx49 : Hid (Blk x49 T 30 #[.slice none 0 0, .slice none 0 0, .int .i64 0]) := hTx48.out.fr (Fr.of_below (F := fun _ => False) hsx49.out) (fun h => h)
                  have hAx49 : Hid (Below wr.heap.size wr x49) := hAx48.out.trans (hsx49.out.mono hAx48.out.size)
                  clear hMx48 hTx48 hAx48
                  clear hd hg hDe hsx49
                  go_wp2_with fail
                  refine And.intro (.inr trivial) ?_
                  simp only
                  iterate 1 (go_big_quiet_step (exact fun _ => rfl))
                  refine wpQuiet_nil (wpQuiet_nil ?_)
                  go_wp2_with (refine wpl_store_new _ rfl 30 (.tmp 9) (.tmp 31) rfl T rfl #[.slice (some ⟨M, 0, none⟩) pn pn, .slice (some ⟨D, 0, none⟩) (Sha.sha (Sy.body q)).length k9, .int .i64 (n3 : Int)] rfl 30 _ hTx49.out (by kernel_rfl) rfl (one3 _ _ _) ?hh)
                  case hh =>
                   intro x50 hk hg
                   have hkd : Hid (Blk x50 T 30 #[.slice (some ⟨M, 0, none⟩) pn pn, .slice (some ⟨D, 0, none⟩) (Sha.sha (Sy.body q)).length k9, .int .i64 (n3 : Int)]) := hk
                   have hF : Fr (fun i => i = T) x49 x50 := (Fr.refl _ _).grown hg (fun i e => .inl (Option.some.inj e).symm)
                   have hFd := Lib.hid hF
                   clear hk hg hF
                   go_wp2_with fail
                   refine And.intro (.inr trivial) ?_
                   simp only
                   refine wpQuiet_nil (wpQuiet_nil ?_)
                   go_wp2_with fail
                   go_meet
                   exact ⟨M, D, T, k9, rfl, hMle.out, hDle.out, hTle.out, by first | exact hneMD.out.symm | exact hneDM.out, by first | exact hneMT.out.symm | exact hneTM.out, by first | exact hneDT.out.symm | exact hneTD.out, hMx49.out.fr hFd.out (by first | exact hneMT.out.symm | exact hneTM.out), hDx49.out.fr hFd.out (by first | exact hneDT.out.symm | exact hneTD.out), hkd.out, hAx49.out.trans (hFd.out.below (fun i h => by rw [h]; exact hTle.out) hAx49.out.size)⟩
              · obtain ⟨D, hDe⟩ : ∃ D, Hid (x47.heap.size = D) := ⟨_, rfl⟩
                have hDle : Hid (wr.heap.size ≤ D) := hDe.out ▸ hAx47.out.size
                have hneDT : Hid (T ≠ D) := fun e => by have := hTx47.out.lt; have := hDe.out; omega
                go_wp2_with (refine wpl_bytes_str rfl 9 23 5 (.tmp 27) rfl Tryd.underlying9 Tryd.underlying23 Tryd.underlying5 (Sha.sha (Sy.body q)) rfl hsl.out ?hh)
                case hh =>
                 intro k9 x51 hd hg
                 have hsx51 : Hid (Below x47.heap.size x47 x51) := (Below.refl _ _).grown hg (Nat.le_refl _) (by intro k hk; cases hk)
                 have hDx51 : Hid (Dig x51 D 5 k9 (Sha.sha (Sy.body q))) := by show Dig _ _ _ _ _; rw [← hDe.out]; exact hd
                 rw [hDe.out]
                 have hTx51 : Hid (Blk x51 T 30 #[.slice none 0 0, .slice none 0 0, .int .i64 0]) := hTx47.out.fr (Fr.of_below (F := fun _ => False) hsx51.out) (fun h => h)
                 have hAx51 : Hid (Below wr.heap.size wr x51) := hAx47.out.trans (hsx51.out.mono hAx47.out.size)
                 clear hTx47 hAx47
                 clear hd hg hDe hsx51
                 go_wp2_with fail
                 refine And.intro (.inr trivial) ?_
                 simp only
                 refine wpQuiet_nil (wpQuiet_nil ?_)
                 obtain ⟨M, hMe⟩ : ∃ M, Hid (x51.heap.size = M) := ⟨_, rfl⟩
                 have hMle : Hid (wr.heap.size ≤ M) := hMe.out ▸ hAx51.out.size
                 have hneMD : Hid (D ≠ M) := fun e => by have := hDx51.out.lt; have := hMe.out; omega
                 have hneMT : Hid (T ≠ M) := fun e => by have := hTx51.out.lt; have := hMe.out; omega
                 go_wp2_with (refine wpl_make rfl 23 (.tmp 24) (.tmp 24) rfl x51.heap.size 5 (.int .u8 0) 1 Tryd.underlying23 infoByte rfl (by decide) .i64 .i64 pn rfl rfl hmk.out (Nat.le_refl _) ?hh)
                 case hh =>
                  intro x52 ho hg
                  have hsx52 : Hid (Below x51.heap.size x51 x52) := (Below.refl _ _).grown hg (Nat.le_refl _) (by intro k hk; cases hk)
                  have hMx52 : Hid (Blk x52 M 5 Z) := by show Blk _ _ _ _; rw [← hMe.out, ← hZ.out]; exact own_blk ho
                  rw [hMe.out]
                  have hDx52 : Hid (Dig x52 D 5 k9 (Sha.sha (Sy.body q))) := hDx51.out.fr (Fr.of_below (F := fun _ => False) hsx52.out) (fun h => h)
                  have hTx52 : Hid (Blk x52 T 30 #[.slice none 0 0, .slice none 0 0, .int .i64 0]) := hTx51.out.fr (Fr.of_below (F := fun _ => False) hsx52.out) (fun h => h)
                  have hAx52 : Hid (Below wr.heap.size wr x52) := hAx51.out.trans (hsx52.out.mono hAx51.out.size)
                  clear hDx51 hTx51 hAx51
                  clear ho hg hMe hsx52
                  go_wp2_with fail
                  refine And.intro (.inr trivial) ?_
                  simp only
                  iterate 1 (go_big_quiet_step (exact fun _ => rfl))
                  refine wpQuiet_nil (wpQuiet_nil ?_)
                  go_wp2_with (refine wpl_store_new _ rfl 30 (.tmp 9) (.tmp 31) rfl T rfl #[.slice (some ⟨M, 0, none⟩) pn pn, .slice (some ⟨D, 0, none⟩) (Sha.sha (Sy.body q)).length k9, .int .i64 (n3 : Int)] rfl 30 _ hTx52.out (by kernel_rfl) rfl (one3 _ _ _) ?hh)
                  case hh =>
                   intro x53 hk hg
                   have hkd : Hid (Blk x53 T 30 #[.slice (some ⟨M, 0, none⟩) pn pn, .slice (some ⟨D, 0, none⟩) (Sha.sha (Sy.body q)).length k9, .int .i64 (n3 : Int)]) := hk
                   have hF : Fr (fun i => i = T) x52 x53 := (Fr.refl _ _).grown hg (fun i e => .inl (Option.some.inj e).symm)
                   have hFd := Lib.hid hF
                   clear hk hg hF
                   go_wp2_with fail
                   refine And.intro (.inr trivial) ?_
                   simp only
                   refine wpQuiet_nil (wpQuiet_nil ?_)
                   go_wp2_with fail
                   go_meet
                   exact ⟨M, D, T, k9, rfl, hMle.out, hDle.out, hTle.out, by first | exact hneMD.out.symm | exact hneDM.out, by first | exact hneMT.out.symm | exact hneTM.out, by first | exact hneDT.out.symm | exact hneTD.out, hMx52.out.fr hFd.out (by first | exact hneMT.out.symm | exact hneTM.out), hDx52.out.fr hFd.out (by first | exact hneDT.out.symm | exact hneTD.out), hkd.out, hAx52.out.trans (hFd.out.below (fun i h => by rw [h]; exact hTle.out) hAx52.out.size)⟩
          · obtain ⟨T, hTe⟩ : ∃ T, Hid (x19.heap.size = T) := ⟨_, rfl⟩
            have hTle : Hid (wr.heap.size ≤ T) := hTe.out ▸ hAx19.out.size
            go_wp2_with fail
            obtain ⟨x54, hx54⟩ : ∃ x, x19.alloc (.cells #[.slice none 0 0, .slice none 0 0, .int .i64 0] 30) = x := ⟨_, rfl⟩
            have hsx54 : Hid (Below x19.heap.size x19 x54) := by show Below _ _ _; rw [← hx54]; exact (Below.refl _ _).alloc (Nat.le_refl _) _
            have hTx54 : Hid (Blk x54 T 30 #[.slice none 0 0, .slice none 0 0, .int .i64 0]) := by show Blk _ _ _ _; rw [← hTe.out, ← hx54]; exact Blk.new' rfl
            rw [hx54, hTe.out]
            have hRx54 : Hid (Rd x54 (fun _ => True) A7 (Sy.body q).length c7 (Sy.body q)) := hRx19.out.fr (Fr.of_below (F := fun _ => False) hsx54.out) (fun _ _ h => h)
            have hAx54 : Hid (Below wr.heap.size wr x54) := hAx19.out.trans (hsx54.out.mono hAx19.out.size)
            clear hRx19 hAx19
            clear hx54 hTe hsx54
            refine And.intro (.inr trivial) ?_
            simp only
            refine wpQuiet_nil (wpQuiet_nil ?_)
            refine ⟨?_, ?_⟩
            · obtain ⟨M, hMe⟩ : ∃ M, Hid (x54.heap.size = M) := ⟨_, rfl⟩
              have hMle : Hid (wr.heap.size ≤ M) := hMe.out ▸ hAx54.out.size
              have hneMT : Hid (T ≠ M) := fun e => by have := hTx54.out.lt; have := hMe.out; omega
              go_wp2_with (refine wpl_make rfl 23 (.tmp 24) (.tmp 24) rfl x54.heap.size 5 (.int .u8 0) 1 Tryd.underlying23 infoByte rfl (by decide) .i64 .i64 pn rfl rfl hmk.out (Nat.le_refl _) ?hh)
              case hh =>
               intro x55 ho hg
               have hsx55 : Hid (Below x54.heap.size x54 x55) := (Below.refl _ _).grown hg (Nat.le_refl _) (by intro k hk; cases hk)
               have hMx55 : Hid (Blk x55 M 5 Z) := by show Blk _ _ _ _; rw [← hMe.out, ← hZ.out]; exact own_blk ho
               rw [hMe.out]
               have hRx55 : Hid (Rd x55 (fun _ => True) A7 (Sy.body q).length c7 (Sy.body q)) := hRx54.out.fr (Fr.of_below (F := fun _ => False) hsx55.out) (fun _ _ h => h)
               have hTx55 : Hid (Blk x55 T 30 #[.slice none 0 0, .slice none 0 0, .int .i64 0]) := hTx54.out.fr (Fr.of_below (F := fun _ => False) hsx55.out) (fun h => h)
               have hAx55 : Hid (Below wr.heap.size wr x55) := hAx54.out.trans (hsx55.out.mono hAx54.out.size)
               clear hRx54 hTx54 hAx54
               clear ho hg hMe hsx55
               go_wp2_with fail
               refine And.intro (.inr trivial) ?_
               simp only
               refine wpQuiet_nil (wpQuiet_nil ?_)
               go_wp2_with fail
               refine (sum_any x55 (hKr.out.below hAx55.out hKr.out.pos) hRx55.out hbl2.out).mono ?_
               rintro e x56 ⟨rfl, hb⟩
               have hsx56 : Hid (Below x55.heap.size x55 x56) := hb
               have hMx56 : Hid (Blk x56 M 5 Z) := hMx55.out.fr (Fr.of_below (F := fun _ => False) hsx56.out) (fun h => h)
               have hTx56 : Hid (Blk x56 T 30 #[.slice none 0 0, .slice none 0 0, .int .i64 0]) := hTx55.out.fr (Fr.of_below (F := fun _ => False) hsx56.out) (fun h => h)
               have hAx56 : Hid (Below wr.heap.size wr x56) := hAx55.out.trans (hsx56.out.mono hAx55.out.size)
               clear hMx55 hRx55 hTx55 hAx55
               clear hb hsx56
               go_wp2_with fail
               refine And.intro (.inr trivial) ?_
               simp only
               refine wpQuiet_nil (wpQuiet_nil ?_)
               obtain ⟨D, hDe⟩ : ∃ D, Hid (x56.heap.size = D) := ⟨_, rfl⟩
               have hDle : Hid (wr.heap.size ≤ D) := hDe.out ▸ hAx56.out.size
               have hneDM : Hid (M ≠ D) := fun e => by have := hMx56.out.lt; have := hDe.out; omega
               have hneDT : Hid (T ≠ D) := fun e => by have := hTx56.out.lt; have := hDe.out; omega
               go_wp2_with (refine wpl_bytes_str rfl 9 23 5 (.tmp 27) rfl Tryd.underlying9 Tryd.underlying23 Tryd.underlying5 (Sha.sha (Sy.body q)) rfl hsl.out ?hh)
               case hh =>
                intro k9 x57 hd hg
                have hsx57 : Hid (Below x56.heap.size x56 x57) := (Below.refl _ _).grown hg (Nat.le_refl _) (by intro k hk; cases hk)
                have hDx57 : Hid (Dig x57 D 5 k9 (Sha.sha (Sy.body q))) := by show Dig _ _ _ _ _; rw [← hDe.out]; exact hd
                rw [hDe.out]
                have hMx57 : Hid (Blk x57 M 5 Z) := hMx56.out.fr (Fr.of_below (F := fun _ => False) hsx57.out) (fun h => h)
                have hTx57 : Hid (Blk x57 T 30 #[.slice none 0 0, .slice none 0 0, .int .i64 0]) := hTx56.out.fr (Fr.of_below (F := fun _ => False) hsx57.out) (fun h => h)
                have hAx57 : Hid (Below wr.heap.size wr x57) := hAx56.out.trans (hsx57.out.mono hAx56.out.size)
                clear hMx56 hTx56 hAx56
                clear hd hg hDe hsx57
                go_wp2_with fail
                refine And.intro (.inr trivial) ?_
                simp only
                iterate 1 (go_big_quiet_step (exact fun _ => rfl))
                refine wpQuiet_nil (wpQuiet_nil ?_)
                go_wp2_with (refine wpl_store_new _ rfl 30 (.tmp 9) (.tmp 31) rfl T rfl #[.slice (some ⟨M, 0, none⟩) pn pn, .slice (some ⟨D, 0, none⟩) (Sha.sha (Sy.body q)).length k9, .int .i64 (n3 : Int)] rfl 30 _ hTx57.out (by kernel_rfl) rfl (one3 _ _ _) ?hh)
                case hh =>
                 intro x58 hk hg
                 have hkd : Hid (Blk x58 T 30 #[.slice (some ⟨M, 0, none⟩) pn pn, .slice (some ⟨D, 0, none⟩) (Sha.sha (Sy.body q)).length k9, .int .i64 (n3 : Int)]) := hk
                 have hF : Fr (fun i => i = T) x57 x58 := (Fr.refl _ _).grown hg (fun i e => .inl (Option.some.inj e).symm)
                 have hFd := Lib.hid hF
                 clear hk hg hF
                 go_wp2_with fail
                 refine And.intro (.inr trivial) ?_
                 simp only
                 refine wpQuiet_nil (wpQuiet_nil ?_)
                 go_wp2_with fail
                 go_meet
                 exact ⟨M, D, T, k9, rfl, hMle.out, hDle.out, hTle.out, by first | exact hneMD.out.symm | exact hneDM.out, by first | exact hneMT.out.symm | exact hneTM.out, by first | exact hneDT.out.symm | exact hneTD.out, hMx57.out.fr hFd.out (by first | exact hneMT.out.symm | exact hneTM.out), hDx57.out.fr hFd.out (by first | exact hneDT.out.symm | exact hneTD.out), hkd.out, hAx57.out.trans (hFd.out.below (fun i h => by rw [h]; exact hTle.out) hAx57.out.size)⟩
            · go_wp2_with fail
              refine (sum_any x54 (hKr.out.below hAx54.out hKr.out.pos) hRx54.out hbl2.out).mono ?_
              rintro e x59 ⟨rfl, hb⟩
              have hsx59 : Hid (Below x54.heap.size x54 x59) := hb
              have hTx59 : Hid (Blk x59 T 30 #[.slice none 0 0, .slice none 0 0, .int .i64 0]) := hTx54.out.fr (Fr.of_below (F := fun _ => False) hsx59.out) (fun h => h)
              have hAx59 : Hid (Below wr.heap.size wr x59) := hAx54.out.trans (hsx59.out.mono hAx54.out.size)
              clear hRx54 hTx54 hAx54
              clear hb hsx59
              go_wp2_with fail
              refine And.intro (.inr trivial) ?_
              simp only
              refine wpQuiet_nil (wpQuiet_nil ?_)
              refine ⟨?_, ?_⟩
              · obtain ⟨M, hMe⟩ : ∃ M, Hid (x59.heap.size = M) := ⟨_, rfl⟩
                have hMle : Hid (wr.heap.size ≤ M) := hMe.out ▸ hAx59.out.size
                have hneMT : Hid (T ≠ M) := fun e => by have := hTx59.out.lt; have := hMe.out; omega
                go_wp2_with (refine wpl_make rfl 23 (.tmp 24) (.tmp 24) rfl x59.heap.size 5 (.int .u8 0) 1 Tryd.underlying23 infoByte rfl (by decide) .i64 .i64 pn rfl rfl hmk.out (Nat.le_refl _) ?hh)
                case hh =>
                 intro x60 ho hg
                 have hsx60 : Hid (Below x59.heap.size x59 x60) := (Below.refl _ _).grown hg (Nat.le_refl _) (by intro k hk; cases hk)
                 have hMx60 : Hid (Blk x60 M 5 Z) := by show Blk _ _ _ _; rw [← hMe.out, ← hZ.out]; exact own_blk ho
                 rw [hMe.out]
                 have hTx60 : Hid (Blk x60 T 30 #[.slice none 0 0, .slice none 0 0, .int .i64 0]) := hTx59.out.fr (Fr.of_below (F := fun _ => False) hsx60.out) (fun h => h)
                 have hAx60 : Hid (Below wr.heap.size wr x60) := hAx59.out.trans (hsx60.out.mono hAx59.out.size)
                 clear hTx59 hAx59
                 clear ho hg hMe hsx60
                 go_wp2_with fail
                 refine And.intro (.inr trivial) ?_
                 simp only
                 refine wpQuiet_nil (wpQuiet_nil ?_)
                 obtain ⟨D, hDe⟩ : ∃ D, Hid (x60.heap.size = D) := ⟨_, rfl⟩
                 have hDle : Hid (wr.heap.size ≤ D) := hDe.out ▸ hAx60.out.size
                 have hneDM : Hid (M ≠ D) := fun e => by have := hMx60.out.lt; have := hDe.out; omega
                 have hneDT : Hid (T ≠ D) := fun e => by have := hTx60.out.lt; have := hDe.out; omega
                 go_wp2_with (refine wpl_bytes_str rfl 9 23 5 (.tmp 27) rfl Tryd.underlying9 Tryd.underlying23 Tryd.underlying5 (Sha.sha (Sy.body q)) rfl hsl.out ?hh)
                 case hh =>
                  intro k9 x61 hd hg
                  have hsx61 : Hid (Below x60.heap.size x60 x61) := (Below.refl _ _).grown hg (Nat.le_refl _) (by intro k hk; cases hk)
                  have hDx61 : Hid (Dig x61 D 5 k9 (Sha.sha (Sy.body q))) := by show Dig _ _ _ _ _; rw [← hDe.out]; exact hd
                  rw [hDe.out]
                  have hMx61 : Hid (Blk x61 M 5 Z) := hMx60.out.fr (Fr.of_below (F := fun _ => False) hsx61.out) (fun h => h)
                  have hTx61 : Hid (Blk x61 T 30 #[.slice none 0 0, .slice none 0 0, .int .i64 0]) := hTx60.out.fr (Fr.of_below (F := fun _ => False) hsx61.out) (fun h => h)
                  have hAx61 : Hid (Below wr.heap.size wr x61) := hAx60.out.trans (hsx61.out.mono hAx60.out.size)
                  clear hMx60 hTx60 hAx60
                  clear hd hg hDe hsx61
                  go_wp2_with fail
                  refine And.intro (.inr trivial) ?_
                  simp only
                  iterate 1 (go_big_quiet_step (exact fun _ => rfl))
                  refine wpQuiet_nil (wpQuiet_nil ?_)
                  go_wp2_with (refine wpl_store_new _ rfl 30 (.tmp 9) (.tmp 31) rfl T rfl #[.slice (some ⟨M, 0, none⟩) pn pn, .slice (some ⟨D, 0, none⟩) (Sha.sha (Sy.body q)).length k9, .int .i64 (n3 : Int)] rfl 30 _ hTx61.out (by kernel_rfl) rfl (one3 _ _ _) ?hh)
                  case hh =>
                   intro x62 hk hg
                   have hkd : Hid (Blk x62 T 30 #[.slice (some ⟨M, 0, none⟩) pn pn, .slice (some ⟨D, 0, none⟩) (Sha.sha (Sy.body q)).length k9, .int .i64 (n3 : Int)]) := hk
                   have hF : Fr (fun i => i = T) x61 x62 := (Fr.refl _ _).grown hg (fun i e => .inl (Option.some.inj e).symm)
                   have hFd := Lib.hid hF
                   clear hk hg hF
                   go_wp2_with fail
                   refine And.intro (.inr trivial) ?_
                   simp only
                   refine wpQuiet_nil (wpQuiet_nil ?_)
                   go_wp2_with fail
                   go_meet
                   exact ⟨M, D, T, k9, rfl, hMle.out, hDle.out, hTle.out, by first | exact hneMD.out.symm | exact hneDM.out, by first | exact hneMT.out.symm | exact hneTM.out, by first | exact hneDT.out.symm | exact hneTD.out, hMx61.out.fr hFd.out (by first | exact hneMT.out.symm | exact hneTM.out), hDx61.out.fr hFd.out (by first | exact hneDT.out.symm | exact hneTD.out), hkd.out, hAx61.out.trans (hFd.out.below (fun i h => by rw [h]; exact hTle.out) hAx61.out.size)⟩
              · obtain ⟨D, hDe⟩ : ∃ D, Hid (x59.heap.size = D) := ⟨_, rfl⟩
                have hDle : Hid (wr.heap.size ≤ D) := hDe.out ▸ hAx59.out.size
                have hneDT : Hid (T ≠ D) := fun e => by have := hTx59.out.lt; have := hDe.out; omega
                go_wp2_with (refine wpl_bytes_str rfl 9 23 5 (.tmp 27) rfl Tryd.underlying9 Tryd.underlying23 Tryd.underlying5 (Sha.sha (Sy.body q)) rfl hsl.out ?hh)
                case hh =>
                 intro k9 x63 hd hg
                 have hsx63 : Hid (Below x59.heap.size x59 x63) := (Below.refl _ _).grown hg (Nat.le_refl _) (by intro k hk; cases hk)
                 have hDx63 : Hid (Dig x63 D 5 k9 (Sha.sha (Sy.body q))) := by show Dig _ _ _ _ _; rw [← hDe.out]; exact hd
                 rw [hDe.out]
                 have hTx63 : Hid (Blk x63 T 30 #[.slice none 0 0, .slice none 0 0, .int .i64 0]) := hTx59.out.fr (Fr.of_below (F := fun _ => False) hsx63.out) (fun h => h)
                 have hAx63 : Hid (Below wr.heap.size wr x63) := hAx59.out.trans (hsx63.out.mono hAx59.out.size)
                 clear hTx59 hAx59
                 clear hd hg hDe hsx63
                 go_wp2_with fail
                 refine And.intro (.inr trivial) ?_
                 simp only
                 refine wpQuiet_nil (wpQuiet_nil ?_)
                 obtain ⟨M, hMe⟩ : ∃ M, Hid (x63.heap.size = M) := ⟨_, rfl⟩
                 have hMle : Hid (wr.heap.size ≤ M) := hMe.out ▸ hAx63.out.size
                 have hneMD : Hid (D ≠ M) := fun e => by have := hDx63.out.lt; have := hMe.out; omega
                 have hneMT : Hid (T ≠ M) := fun e => by have := hTx63.out.lt; have := hMe.out; omega
                 go_wp2_with (refine wpl_make rfl 23 (.tmp 24) (.tmp 24) rfl x63.heap.size 5 (.int .u8 0) 1 Tryd.underlying23 infoByte rfl (by decide) .i64 .i64 pn rfl rfl hmk.out (Nat.le_refl _) ?hh)
                 case hh =>
                  intro x64 ho hg
                  have hsx64 : Hid (Below x63.heap.size x63 x64) := (Below.refl _ _).grown hg (Nat.le_refl _) (by intro k hk; cases hk)
                  have hMx64 : Hid (Blk x64 M 5 Z) := by show Blk _ _ _ _; rw [← hMe.out, ← hZ.out]; exact own_blk ho
                  rw [hMe.out]
                  have hDx64 : Hid (Dig x64 D 5 k9 (Sha.sha (Sy.body q))) := hDx63.out.fr (Fr.of_below (F := fun _ => False) hsx64.out) (fun h => h)
                  have hTx64 : Hid (Blk x64 T 30 #[.slice none 0 0, .slice none 0 0, .int .i64 0]) := hTx63.out.fr (Fr.of_below (F := fun _ => False) hsx64.out) (fun h => h)
                  have hAx64 : Hid (Below wr.heap.size wr x64) := hAx63.out.trans (hsx64.out.mono hAx63.out.size)
                  clear hDx63 hTx63 hAx63
                  clear ho hg hMe hsx64
                  go_wp2_with fail
                  refine And.intro (.inr trivial) ?_
                  simp only
                  iterate 1 (go_big_quiet_step (exact fun _ => rfl))
                  refine wpQuiet_nil (wpQuiet_nil ?_)
                  go_wp2_with (refine wpl_store_new _ rfl 30 (.tmp 9) (.tmp 31) rfl T rfl #[.slice (some ⟨M, 0, none⟩) pn pn, .slice (some ⟨D, 0, none⟩) (Sha.sha (Sy.body q)).length k9, .int .i64 (n3 : Int)] rfl 30 _ hTx64.out (by kernel_rfl) rfl (one3 _ _ _) ?hh)
                  case hh =>
                   intro x65 hk hg
                   have hkd : Hid (Blk x65 T 30 #[.slice (some ⟨M, 0, none⟩) pn pn, .slice (some ⟨D, 0, none⟩) (Sha.sha (Sy.body q)).length k9, .int .i64 (n3 : Int)]) := hk
                   have hF : Fr (fun i => i = T) x64 x65 := (Fr.refl _ _).grown hg (fun i e => .inl (Option.some.inj e).symm)
                   have hFd := Lib.hid hF
                   clear hk hg hF
                   go_wp2_with fail
                   refine And.intro (.inr trivial) ?_
                   simp only
                   refine wpQuiet_nil (wpQuiet_nil ?_)
                   go_wp2_with fail
                   go_meet
                   exact ⟨M, D, T, k9, rfl, hMle.out, hDle.out, hTle.out, by first | exact hneMD.out.symm | exact hneDM.out, by first | exact hneMT.out.symm | exact hneTM.out, by first | exact hneDT.out.symm | exact hneTD.out, hMx64.out.fr hFd.out (by first | exact hneMT.out.symm | exact hneTM.out), hDx64.out.fr hFd.out (by first | exact hneDT.out.symm | exact hneTD.out), hkd.out, hAx64.out.trans (hFd.out.below (fun i h => by rw [h]; exact hTle.out) hAx64.out.size)⟩
        · obtain ⟨T, hTe⟩ : ∃ T, Hid (x0.heap.size = T) := ⟨_, rfl⟩
          have hTle : Hid (wr.heap.size ≤ T) := hTe.out ▸ hAx0.out.size
          go_wp2_with fail
          obtain ⟨x66, hx66⟩ : ∃ x, x0.alloc (.cells #[.slice none 0 0, .slice none 0 0, .int .i64 0] 30) = x := ⟨_, rfl⟩
          have hsx66 : Hid (Below x0.heap.size x0 x66) := by show Below _ _ _; rw [← hx66]; exact (Below.refl _ _).alloc (Nat.le_refl _) _
          have hTx66 : Hid (Blk x66 T 30 #[.slice none 0 0, .slice none 0 0, .int .i64 0]) := by show Blk _ _ _ _; rw [← hTe.out, ← hx66]; exact Blk.new' rfl
          rw [hx66, hTe.out]
          have hWx66 : Hid (Wk x66 (fun i => i = G ∨ w3.heap.size ≤ i) G (Sy.body q)) := hWx0.out.fr (Fr.of_below (F := fun _ => False) hsx66.out) (fun _ _ h => h)
          have hAx66 : Hid (Below wr.heap.size wr x66) := hAx0.out.trans (hsx66.out.mono hAx0.out.size)
          clear hWx0 hAx0
          clear hx66 hTe hsx66
          refine And.intro (.inr trivial) ?_
          simp only
          refine wpQuiet_nil (wpQuiet_nil ?_)
          refine ⟨?_, ?_⟩
          · obtain ⟨M, hMe⟩ : ∃ M, Hid (x66.heap.size = M) := ⟨_, rfl⟩
            have hMle : Hid (wr.heap.size ≤ M) := hMe.out ▸ hAx66.out.size
            have hneMT : Hid (T ≠ M) := fun e => by have := hTx66.out.lt; have := hMe.out; omega
            go_wp2_with (refine wpl_make rfl 23 (.tmp 24) (.tmp 24) rfl x66.heap.size 5 (.int .u8 0) 1 Tryd.underlying23 infoByte rfl (by decide) .i64 .i64 pn rfl rfl hmk.out (Nat.le_refl _) ?hh)
            case hh =>
             intro x67 ho hg
             have hsx67 : Hid (Below x66.heap.size x66 x67) := (Below.refl _ _).grown hg (Nat.le_refl _) (by intro k hk; cases hk)
             have hMx67 : Hid (Blk x67 M 5 Z) := by show Blk _ _ _ _; rw [← hMe.out, ← hZ.out]; exact own_blk ho
             rw [hMe.out]
             have hWx67 : Hid (Wk x67 (fun i => i = G ∨ w3.heap.size ≤ i) G (Sy.body q)) := hWx66.out.fr (Fr.of_below (F := fun _ => False) hsx67.out) (fun _ _ h => h)
             have hTx67 : Hid (Blk x67 T 30 #[.slice none 0 0, .slice none 0 0, .int .i64 0]) := hTx66.out.fr (Fr.of_below (F := fun _ => False) hsx67.out) (fun h => h)
             have hAx67 : Hid (Below wr.heap.size wr x67) := hAx66.out.trans (hsx67.out.mono hAx66.out.size)
             clear hWx66 hTx66 hAx66
             clear ho hg hMe hsx67
             go_wp2_with fail
             refine And.intro (.inr trivial) ?_
             simp only
             refine wpQuiet_nil (wpQuiet_nil ?_)
             go_wp2_with fail
             refine (wdata_k x67 hWx67.out hbl.out).mono ?_
             rintro e x68 ⟨A7, c7, rfl, ho, hb⟩
             have hsx68 : Hid (Below x67.heap.size x67 x68) := hb
             have hRx68 : Hid (Rd x68 (fun _ => True) A7 (Sy.body q).length c7 (Sy.body q)) := (own_rd ho).mono (fun _ _ _ => trivial)
             have hMx68 : Hid (Blk x68 M 5 Z) := hMx67.out.fr (Fr.of_below (F := fun _ => False) hsx68.out) (fun h => h)
             have hTx68 : Hid (Blk x68 T 30 #[.slice none 0 0, .slice none 0 0, .int .i64 0]) := hTx67.out.fr (Fr.of_below (F := fun _ => False) hsx68.out) (fun h => h)
             have hAx68 : Hid (Below wr.heap.size wr x68) := hAx67.out.trans (hsx68.out.mono hAx67.out.size)
             clear hMx67 hWx67 hTx67 hAx67
             clear ho hb hsx68
             go_wp2_with fail
             refine And.intro (.inr trivial) ?_
             simp only
             refine wpQuiet_nil (wpQuiet_nil ?_)
             go_wp2_with fail
             refine (sum_any x68 (hKr.out.below hAx68.out hKr.out.pos) hRx68.out hbl2.out).mono ?_
             rintro e x69 ⟨rfl, hb⟩
             have hsx69 : Hid (Below x68.heap.size x68 x69) := hb
             have hMx69 : Hid (Blk x69 M 5 Z) := hMx68.out.fr (Fr.of_below (F := fun _ => False) hsx69.out) (fun h => h)
             have hTx69 : Hid (Blk x69 T 30 #[.slice none 0 0, .slice none 0 0, .int .i64 0]) := hTx68.out.fr (Fr.of_below (F := fun _ => False) hsx69.out) (fun h => h)
             have hAx69 : Hid (Below wr.heap.size wr x69) := hAx68.out.trans (hsx69.out.mono hAx68.out.size)
             clear hMx68 hRx68 hTx68 hAx68
             clear hb hsx69
             go_wp2_with fail
             refine And.intro (.inr trivial) ?_
             simp only
             refine wpQuiet_nil (wpQuiet_nil ?_)
             obtain ⟨D, hDe⟩ : ∃ D, Hid (x69.heap.size = D) := ⟨_, rfl⟩
             have hDle : Hid (wr.heap.size ≤ D) := hDe.out ▸ hAx69.out.size
             have hneDM : Hid (M ≠ D) := fun e => by have := hMx69.out.lt; have := hDe.out; omega
             have hneDT : Hid (T ≠ D) := fun e => by have := hTx69.out.lt; have := hDe.out; omega
             go_wp2_with (refine wpl_bytes_str rfl 9 23 5 (.tmp 27) rfl Tryd.underlying9 Tryd.underlying23 Tryd.underlying5 (Sha.sha (Sy.body q)) rfl hsl.out ?hh)
             case hh =>
              intro k9 x70 hd hg
              have hsx70 : Hid (Below x69.heap.size x69 x70) := (Below.refl _ _).grown hg (Nat.le_refl _) (by intro k hk; cases hk)
              have hDx70 : Hid (Dig x70 D 5 k9 (Sha.sha (Sy.body q))) := by show Dig _ _ _ _ _; rw [← hDe.out]; exact hd
              rw [hDe.out]
              have hMx70 : Hid (Blk x70 M 5 Z) := hMx69.out.fr (Fr.of_below (F := fun _ => False) hsx70.out) (fun h => h)
              have hTx70 : Hid (Blk x70 T 30 #[.slice none 0 0, .slice none 0 0, .int .i64 0]) := hTx69.out.fr (Fr.of_below (F := fun _ => False) hsx70.out) (fun h => h)
              have hAx70 : Hid (Below wr.heap.size wr x70) := hAx69.out.trans (hsx70.out.mono hAx69.out.size)
              clear hMx69 hTx69 hAx69
              clear hd hg hDe hsx70
              go_wp2_with fail
              refine And.intro (.inr trivial) ?_
              simp only
              iterate 1 (go_big_quiet_step (exact fun _ => rfl))
              refine wpQuiet_nil (wpQuiet_nil ?_)
              go_wp2_with (refine wpl_store_new _ rfl 30 (.tmp 9) (.tmp 31) rfl T rfl #[.slice (some ⟨M, 0, none⟩) pn pn, .slice (some ⟨D, 0, none⟩) (Sha.sha (Sy.body q)).length k9, .int .i64 (n3 : Int)] rfl 30 _ hTx70.out (by kernel_rfl) rfl (one3 _ _ _) ?hh)
              case hh =>
               intro x71 hk hg
               have hkd : Hid (Blk x71 T 30 #[.slice (some ⟨M, 0, none⟩) pn pn, .slice (some ⟨D, 0, none⟩) (Sha.sha (Sy.body q)).length k9, .int .i64 (n3 : Int)]) := hk
               have hF : Fr (fun i => i = T) x70 x71 := (Fr.refl _ _).grown hg (fun i e => .inl (Option.some.inj e).symm)
               have hFd := Lib.hid hF
               clear hk hg hF
               go_wp2_with fail
               refine And.intro (.inr trivial) ?_
               simp only
               refine wpQuiet_nil (wpQuiet_nil ?_)
               go_wp2_with fail
               go_meet
               exact ⟨M, D, T, k9, rfl, hMle.out, hDle.out, hTle.out, by first | exact hneMD.out.symm | exact hneDM.out, by first | exact hneMT.out.symm | exact hneTM.out, by first | exact hneDT.out.symm | exact hneTD.out, hMx70.out.fr hFd.out (by first | exact hneMT.out.symm | exact hneTM.out), hDx70.out.fr hFd.out (by first | exact hneDT.out.symm | exact hneTD.out), hkd.out, hAx70.out.trans (hFd.out.below (fun i h => by rw [h]; exact hTle.out) hAx70.out.size)⟩
          · go_wp2_with fail
            refine (wdata_k x66 hWx66.out hbl.out).mono ?_
            rintro e x72 ⟨A7, c7, rfl, ho, hb⟩
            have hsx72 : Hid (Below x66.heap.size x66 x72) := hb
            have hRx72 : Hid (Rd x72 (fun _ => True) A7 (Sy.body q).length c7 (Sy.body q)) := (own_rd ho).mono (fun _ _ _ => trivial)
            have hTx72 : Hid (Blk x72 T 30 #[.slice none 0 0, .slice none 0 0, .int .i64 0]) := hTx66.out.fr (Fr.of_below (F := fun _ => False) hsx72.out) (fun h => h)
            have hAx72 : Hid (Below wr.heap.size wr x72) := hAx66.out.trans (hsx72.out.mono hAx66.out.size)
            clear hWx66 hTx66 hAx66
            clear ho hb hsx72
            go_wp2_with fail
            refine And.intro (.inr trivial) ?_
            simp only
            refine wpQuiet_nil (wpQuiet_nil ?_)
            refine ⟨?_, ?_⟩
            · obtain ⟨M, hMe⟩ : ∃ M, Hid (x72.heap.size = M) := ⟨_, rfl⟩
              have hMle : Hid (wr.heap.size ≤ M) := hMe.out ▸ hAx72.out.size
              have hneMT : Hid (T ≠ M) := fun e => by have := hTx72.out.lt; have := hMe.out; omega
              go_wp2_with (refine wpl_make rfl 23 (.tmp 24) (.tmp 24) rfl x72.heap.size 5 (.int .u8 0) 1 Tryd.underlying23 infoByte rfl (by decide) .i64 .i64 pn rfl rfl hmk.out (Nat.le_refl _) ?hh)
              case hh =>
               intro x73 ho hg
               have hsx73 : Hid (Below x72.heap.size x72 x73) := (Below.refl _ _).grown hg (Nat.le_refl _) (by intro k hk; cases hk)
               have hMx73 : Hid (Blk x73 M 5 Z) := by show Blk _ _ _ _; rw [← hMe.out, ← hZ.out]; exact own_blk ho
               rw [hMe.out]
               have hRx73 : Hid (Rd x73 (fun _ => True) A7 (Sy.body q).length c7 (Sy.body q)) := hRx72.out.fr (Fr.of_below (F := fun _ => False) hsx73.out) (fun _ _ h => h)
               have hTx73 : Hid (Blk x73 T 30 #[.slice none 0 0, .slice none 0 0, .int .i64 0]) := hTx72.out.fr (Fr.of_below (F := fun _ => False) hsx73.out) (fun h => h)
               have hAx73 : Hid (Below wr.heap.size wr x73) := hAx72.out.trans (hsx73.out.mono hAx72.out.size)
               clear hRx72 hTx72 hAx72
               clear ho hg hMe hsx73
               go_wp2_with fail
               refine And.intro (.inr trivial) ?_
               simp only
               refine wpQuiet_nil (wpQuiet_nil ?_)
               go_wp2_with fail
               refine (sum_any x73 (hKr.out.below hAx73.out hKr.out.pos) hRx73.out hbl2.out).mono ?_
               rintro e x74 ⟨rfl, hb⟩
               have hsx74 : Hid (Below x73.heap.size x73 x74) := hb
               have hMx74 : Hid (Blk x74 M 5 Z) := hMx73.out.fr (Fr.of_below (F := fun _ => False) hsx74.out) (fun h => h)
               have hTx74 : Hid (Blk x74 T 30 #[.slice none 0 0, .slice none 0 0, .int .i64 0]) := hTx73.out.fr (Fr.of_below (F := fun _ => False) hsx74.out) (fun h => h)
               have hAx74 : Hid (Below wr.heap.size wr x74) := hAx73.out.trans (hsx74.out.mono hAx73.out.size)
               clear hMx73 hRx73 hTx73 hAx73
               clear hb hsx74
               go_wp2_with fail
               refine And.intro (.inr trivial) ?_
               simp only
               refine wpQuiet_nil (wpQuiet_nil ?_)
               obtain ⟨D, hDe⟩ : ∃ D, Hid (x74.heap.size = D) := ⟨_, rfl⟩
               have hDle : Hid (wr.heap.size ≤ D) := hDe.out ▸ hAx74.out.size
               have hneDM : Hid (M ≠ D) := fun e => by have := hMx74.out.lt; have := hDe.out; omega
               have hneDT : Hid (T ≠ D) := fun e => by have := hTx74.out.lt; have := hDe.out; omega
               go_wp2_with (refine wpl_bytes_str rfl 9 23 5 (.tmp 27) rfl Tryd.underlying9 Tryd.underlying23 Tryd.underlying5 (Sha.sha (Sy.body q)) rfl hsl.out ?hh)
               case hh =>
                intro k9 x75 hd hg
                have hsx75 : Hid (Below x74.heap.size x74 x75) := (Below.refl _ _).grown hg (Nat.le_refl _) (by intro k hk; cases hk)
                have hDx75 : Hid (Dig x75 D 5 k9 (Sha.sha (Sy.body q))) := by show Dig _ _ _ _ _; rw [← hDe.out]; exact hd
                rw [hDe.out]
                have hMx75 : Hid (Blk x75 M 5 Z) := hMx74.out.fr (Fr.of_below (F := fun _ => False) hsx75.out) (fun h => h)
                have hTx75 : Hid (Blk x75 T 30 #[.slice none 0 0, .slice none 0 0, .int .i64 0]) := hTx74.out.fr (Fr.of_below (F := fun _ => False) hsx75.out) (fun h => h)
                have hAx75 : Hid (Below wr.heap.size wr x75) := hAx74.out.trans (hsx75.out.mono hAx74.out.size)
                clear hMx74 hTx74 hAx74
                clear hd hg hDe hsx75
                go_wp2_with fail
                refine And.intro (.inr trivial) ?_
                simp only
                iterate 1 (go_big_quiet_step (exact fun _ => rfl))
                refine wpQuiet_nil (wpQuiet_nil ?_)
                go_wp2_with (refine wpl_store_new _ rfl 30 (.tmp 9) (.tmp 31) rfl T rfl #[.slice (some ⟨M, 0, none⟩) pn pn, .slice (some ⟨D, 0, none⟩) (Sha.sha (Sy.body q)).length k9, .int .i64 (n3 : Int)] rfl 30 _ hTx75.out (by kernel_rfl) rfl (one3 _ _ _) ?hh)
                case hh =>
                 intro x76 hk hg
                 have hkd : Hid (Blk x76 T 30 #[.slice (some ⟨M, 0, none⟩) pn pn, .slice (some ⟨D, 0, none⟩) (Sha.sha (Sy.body q)).length k9, .int .i64 (n3 : Int)]) := hk
                 have hF : Fr (fun i => i = T) x75 x76 := (Fr.refl _ _).grown hg (fun i e => .inl (Option.some.inj e).symm)
                 have hFd := Lib.hid hF
                 clear hk hg hF
                 go_wp2_with fail
                 refine And.intro (.inr trivial) ?_
                 simp only
                 refine wpQuiet_nil (wpQuiet_nil ?_)
                 go_wp2_with fail
                 go_meet
                 exact ⟨M, D, T, k9, rfl, hMle.out, hDle.out, hTle.out, by first | exact hneMD.out.symm | exact hneDM.out, by first | exact hneMT.out.symm | exact hneTM.out, by first | exact hneDT.out.symm | exact hneTD.out, hMx75.out.fr hFd.out (by first | exact hneMT.out.symm | exact hneTM.out), hDx75.out.fr hFd.out (by first | exact hneDT.out.symm | exact hneTD.out), hkd.out, hAx75.out.trans (hFd.out.below (fun i h => by rw [h]; exact hTle.out) hAx75.out.size)⟩
            · go_wp2_with fail
              refine (sum_any x72 (hKr.out.below hAx72.out hKr.out.pos) hRx72.out hbl2.out).mono ?_
              rintro e x77 ⟨rfl, hb⟩
              have hsx77 : Hid (Below x72.heap.size x72 x77) := hb
              have hTx77 : Hid (Blk x77 T 30 #[.slice none 0 0, .slice none 0 0, .int .i64 0]) := hTx72.out.fr (Fr.of_below (F := fun _ => False) hsx77.out) (fun h => h)
              have hAx77 : Hid (Below wr.heap.size wr x77) := hAx72.out.trans (hsx77.out.mono hAx72.out.size)
              clear hRx72 hTx72 hAx72
              clear hb hsx77
              go_wp2_with fail
              refine And.intro (.inr trivial) ?_
              simp only
              refine wpQuiet_nil (wpQuiet_nil ?_)
              refine ⟨?_, ?_⟩
              · obtain ⟨M, hMe⟩ : ∃ M, Hid (x77.heap.size = M) := ⟨_, rfl⟩
                have hMle : Hid (wr.heap.size ≤ M) := hMe.out ▸ hAx77.out.size
                have hneMT : Hid (T ≠ M) := fun e => by have := hTx77.out.lt; have := hMe.out; omega
                go_wp2_with (refine wpl_make rfl 23 (.tmp 24) (.tmp 24) rfl x77.heap.size 5 (.int .u8 0) 1 Tryd.underlying23 infoByte rfl (by decide) .i64 .i64 pn rfl rfl hmk.out (Nat.le_refl _) ?hh)
                case hh =>
                 intro x78 ho hg
                 have hsx78 : Hid (Below x77.heap.size x77 x78) := (Below.refl _ _).grown hg (Nat.le_refl _) (by intro k hk; cases hk)
                 have hMx78 : Hid (Blk x78 M 5 Z) := by show Blk _ _ _ _; rw [← hMe.out, ← hZ.out]; exact own_blk ho
                 rw [hMe.out]
                 have hTx78 : Hid (Blk x78 T 30 #[.slice none 0 0, .slice none 0 0, .int .i64 0]) := hTx77.out.fr (Fr.of_below (F := fun _ => False) hsx78.out) (fun h => h)
                 have hAx78 : Hid (Below wr.heap.size wr x78) := hAx77.out.trans (hsx78.out.mono hAx77.out.size)
                 clear hTx77 hAx77
                 clear ho hg hMe hsx78
                 go_wp2_with fail
                 refine And.intro (.inr trivial) ?_
                 simp only
                 refine wpQuiet_nil (wpQuiet_nil ?_)
                 obtain ⟨D, hDe⟩ : ∃ D, Hid (x78.heap.size = D) := ⟨_, rfl⟩
                 have hDle : Hid (wr.heap.size ≤ D) := hDe.out ▸ hAx78.out.size
                 have hneDM : Hid (M ≠ D) := fun e => by have := hMx78.out.lt; have := hDe.out; omega
                 have hneDT : Hid (T ≠ D) := fun e => by have := hTx78.out.lt; have := hDe.out; omega
                 go_wp2_with (refine wpl_bytes_str rfl 9 23 5 (.tmp 27) rfl Tryd.underlying9 Tryd.underlying23 Tryd.underlying5 (Sha.sha (Sy.body q)) rfl hsl.out ?hh)
                 case hh =>
                  intro k9 x79 hd hg
                  have hsx79 : Hid (Below x78.heap.size x78 x79) := (Below.refl _ _).grown hg (Nat.le_refl _) (by intro k hk; cases hk)
                  have hDx79 : Hid (Dig x79 D 5 k9 (Sha.sha (Sy.body q))) := by show Dig _ _ _ _ _; rw [← hDe.out]; exact hd
                  rw [hDe.out]
                  have hMx79 : Hid (Blk x79 M 5 Z) := hMx78.out.fr (Fr.of_below (F := fun _ => False) hsx79.out) (fun h => h)
                  have hTx79 : Hid (Blk x79 T 30 #[.slice none 0 0, .slice none 0 0, .int .i64 0]) := hTx78.out.fr (Fr.of_below (F := fun _ => False) hsx79.out) (fun h => h)
                  have hAx79 : Hid (Below wr.heap.size wr x79) := hAx78.out.trans (hsx79.out.mono hAx78.out.size)
                  clear hMx78 hTx78 hAx78
                  clear hd hg hDe hsx79
                  go_wp2_with fail
                  refine And.intro (.inr trivial) ?_
                  simp only
                  iterate 1 (go_big_quiet_step (exact fun _ => rfl))
                  refine wpQuiet_nil (wpQuiet_nil ?_)
                  go_wp2_with (refine wpl_store_new _ rfl 30 (.tmp 9) (.tmp 31) rfl T rfl #[.slice (some ⟨M, 0, none⟩) pn pn, .slice (some ⟨D, 0, none⟩) (Sha.sha (Sy.body q)).length k9, .int .i64 (n3 : Int)] rfl 30 _ hTx79.out (by kernel_rfl) rfl (one3 _ _ _) ?hh)
                  case hh =>
                   intro x80 hk hg
                   have hkd : Hid (Blk x80 T 30 #[.slice (some ⟨M, 0, none⟩) pn pn, .slice (some ⟨D, 0, none⟩) (Sha.sha (Sy.body q)).length k9, .int .i64 (n3 : Int)]) := hk
                   have hF : Fr (fun i => i = T) x79 x80 := (Fr.refl _ _).grown hg (fun i e => .inl (Option.some.inj e).symm)
                   have hFd := Lib.hid hF
                   clear hk hg hF
                   go_wp2_with fail
                   refine And.intro (.inr trivial) ?_
                   simp only
                   refine wpQuiet_nil (wpQuiet_nil ?_)
                   go_wp2_with fail
                   go_meet
                   exact ⟨M, D, T, k9, rfl, hMle.out, hDle.out, hTle.out, by first | exact hneMD.out.symm | exact hneDM.out, by first | exact hneMT.out.symm | exact hneTM.out, by first | exact hneDT.out.symm | exact hneTD.out, hMx79.out.fr hFd.out (by first | exact hneMT.out.symm | exact hneTM.out), hDx79.out.fr hFd.out (by first | exact hneDT.out.symm | exact hneTD.out), hkd.out, hAx79.out.trans (hFd.out.below (fun i h => by rw [h]; exact hTle.out) hAx79.out.size)⟩
              · obtain ⟨D, hDe⟩ : ∃ D, Hid (x77.heap.size = D) := ⟨_, rfl⟩
                have hDle : Hid (wr.heap.size ≤ D) := hDe.out ▸ hAx77.out.size
                have hneDT : Hid (T ≠ D) := fun e => by have := hTx77.out.lt; have := hDe.out; omega
                go_wp2_with (refine wpl_bytes_str rfl 9 23 5 (.tmp 27) rfl Tryd.underlying9 Tryd.underlying23 Tryd.underlying5 (Sha.sha (Sy.body q)) rfl hsl.out ?hh)
                case hh =>
                 intro k9 x81 hd hg
                 have hsx81 : Hid (Below x77.heap.size x77 x81) := (Below.refl _ _).grown hg (Nat.le_refl _) (by intro k hk; cases hk)
                 have hDx81 : Hid (Dig x81 D 5 k9 (Sha.sha (Sy.body q))) := by show Dig _ _ _ _ _; rw [← hDe.out]; exact hd
                 rw [hDe.out]
                 have hTx81 : Hid (Blk x81 T 30 #[.slice none 0 0, .slice none 0 0, .int .i64 0]) := hTx77.out.fr (Fr.of_below (F := fun _ => False) hsx81.out) (fun h => h)
                 have hAx81 : Hid (Below wr.heap.size wr x81) := hAx77.out.trans (hsx81.out.mono hAx77.out.size)
                 clear hTx77 hAx77
                 clear hd hg hDe hsx81
                 go_wp2_with fail
                 refine And.intro (.inr trivial) ?_
                 simp only
                 refine wpQuiet_nil (wpQuiet_nil ?_)
                 obtain ⟨M, hMe⟩ : ∃ M, Hid (x81.heap.size = M) := ⟨_, rfl⟩
                 have hMle : Hid (wr.heap.size ≤ M) := hMe.out ▸ hAx81.out.size
                 have hneMD : Hid (D ≠ M) := fun e => by have := hDx81.out.lt; have := hMe.out; omega
                 have hneMT : Hid (T ≠ M) := fun e => by have := hTx81.out.lt; have := hMe.out; omega
                 go_wp2_with (refine wpl_make rfl 23 (.tmp 24) (.tmp 24) rfl x81.heap.size 5 (.int .u8 0) 1 Tryd.underlying23 infoByte rfl (by decide) .i64 .i64 pn rfl rfl hmk.out (Nat.le_refl _) ?hh)
                 case hh =>
                  intro x82 ho hg
                  have hsx82 : Hid (Below x81.heap.size x81 x82) := (Below.refl _ _).grown hg (Nat.le_refl _) (by intro k hk; cases hk)
                  have hMx82 : Hid (Blk x82 M 5 Z) := by show Blk _ _ _ _; rw [← hMe.out, ← hZ.out]; exact own_blk ho
                  rw [hMe.out]
                  have hDx82 : Hid (Dig x82 D 5 k9 (Sha.sha (Sy.body q))) := hDx81.out.fr (Fr.of_below (F := fun _ => False) hsx82.out) (fun h => h)
                  have hTx82 : Hid (Blk x82 T 30 #[.slice none 0 0, .slice none 0 0, .int .i64 0]) := hTx81.out.fr (Fr.of_below (F := fun _ => False) hsx82.out) (fun h => h)
                  have hAx82 : Hid (Below wr.heap.size wr x82) := hAx81.out.trans (hsx82.out.mono hAx81.out.size)
                  clear hDx81 hTx81 hAx81
                  clear ho hg hMe hsx82
                  go_wp2_with fail
                  refine And.intro (.inr trivial) ?_
                  simp only
                  iterate 1 (go_big_quiet_step (exact fun _ => rfl))
                  refine wpQuiet_nil (wpQuiet_nil ?_)
                  go_wp2_with (refine wpl_store_new _ rfl 30 (.tmp 9) (.tmp 31) rfl T rfl #[.slice (some ⟨M, 0, none⟩) pn pn, .slice (some ⟨D, 0, none⟩) (Sha.sha (Sy.body q)).length k9, .int .i64 (n3 : Int)] rfl 30 _ hTx82.out (by kernel_rfl) rfl (one3 _ _ _) ?hh)
                  case hh =>
                   intro x83 hk hg
                   have hkd : Hid (Blk x83 T 30 #[.slice (some ⟨M, 0, none⟩) pn pn, .slice (some ⟨D, 0, none⟩) (Sha.sha (Sy.body q)).length k9, .int .i64 (n3 : Int)]) := hk
                   have hF : Fr (fun i => i = T) x82 x83 := (Fr.refl _ _).grown hg (fun i e => .inl (Option.some.inj e).symm)
                   have hFd := Lib.hid hF
                   clear hk hg hF
                   go_wp2_with fail
                   refine And.intro (.inr trivial) ?_
                   simp only
                   refine wpQuiet_nil (wpQuiet_nil ?_)
                   go_wp2_with fail
                   go_meet
                   exact ⟨M, D, T, k9, rfl, hMle.out, hDle.out, hTle.out, by first | exact hneMD.out.symm | exact hneDM.out, by first | exact hneMT.out.symm | exact hneTM.out, by first | exact hneDT.out.symm | exact hneTD.out, hMx82.out.fr hFd.out (by first | exact hneMT.out.symm | exact hneTM.out), hDx82.out.fr hFd.out (by first | exact hneDT.out.symm | exact hneTD.out), hkd.out, hAx82.out.trans (hFd.out.below (fun i h => by rw [h]; exact hTle.out) hAx82.out.size)⟩
      case rest =>
        obtain ⟨M, D, T, k9, rfl, hMle, hDle, hTle, hMD, hMT, hDT, hkM, hkD, hkT, hbc⟩ := hcut
        have hfc := Fr.of_below (F := fun _ => False) hbc
        have hrw := hfrd.out.size
        have hKne : ∀ i, i < w.heap.size → ¬ (i = G ∨ w3.heap.size ≤ i) := fun i h => by have := hG3.out; have := hG0d.out; omega
        have hpw : Hid (Rd wc (fun i => i < w.heap.size) P pn pc ps) := ((hpd.out.fr (Fr.of_below (F := fun _ => False) hb3d.out) (fun _ _ h => h)).fr hfrd.out hKne).fr hfc (fun _ _ h => h)
        have hRw : Hid (Blk wc w.heap.size 30 #[.slice none 0 0, .slice none 0 0, .int .i64 0]) := ((hRd.out.fr (Fr.of_below (F := fun _ => False) hb23d.out) (fun h => h)).fr hfrd.out (fun h => by have := hG3.out; omega)).fr hfc (fun h => h)
        have hbwr : Hid (Below w.heap.size w wr) := hb3d.out.trans (hfrd.out.below (fun i h => by have := hG0d.out; have := hb3d.out.size; omega) hb3d.out.size)
        have hbwc : Hid (Below w.heap.size w wc) := hbwr.out.trans (hbc.mono hbwr.out.size)
        have hMw : Hid (w.heap.size ≤ M ∧ M ≠ w.heap.size ∧ w.heap.size ≤ D ∧ w.heap.size ≤ T ∧ T ≠ w.heap.size ∧ D ≠ w.heap.size) := by have := hG3.out; show _ ∧ _; omega
        have hdif : Hid (M ≠ D ∧ M ≠ T ∧ D ≠ T) := ⟨hMD, hMT, hDT⟩
        have hcs : pn ≤ Z.size := by rw [← hZ.out]; simp
        have hpr := hpw.out
        have hzr : Hid ((ps.map u8v ++ Z.toList.drop pn).toArray = (ps.map u8v).toArray) := by show _ = _; rw [← hZ.out, List.drop_of_length_le (by simp), List.append_nil]
        have hkTd := Lib.hid hkT
        have hkDd := Lib.hid hkD
        have t0 : wc.cell? ⟨T, 0, none⟩ = some (.slice (some ⟨M, 0, none⟩) pn pn) := (hkT.cell 0).trans rfl
        clear hMle hDle hTle hMD hMT hDT hkD hkT hbc hfc hrw hKne
        go_wp2_with (refine wpl_copy_rd rfl (.tmp 33) (.tmp 34) 23 23 rfl 5 Tryd.underlying23 (by kernel_rfl) M pn pn rfl 5 _ hkM _ _ _ _ ps hpr rfl (Nat.le_refl _) hcs ?h1)
        case h1 =>
          intro w7 hk7 hg7
          have hF7 : Hid (Fr (fun i => i = M) wc w7) := (Fr.refl _ _).grown hg7 (fun i e => .inl (Option.some.inj e).symm)
          have hkM7 : Hid (Blk w7 M 5 (ps.map u8v).toArray) := by have h := hk7; rw [hzr.out] at h; exact h
          have hkT7 := hkTd.out.fr hF7.out (fun e => hdif.out.2.1 e.symm)
          have hkT7d := Lib.hid hkT7
          have hkD7 : Hid (Dig w7 D 5 k9 (Sha.sha (Sy.body q))) := hkDd.out.fr hF7.out (fun e => hdif.out.1 e.symm)
          have hR7 := hRw.out.fr hF7.out (fun e => hMw.out.2.1 e.symm)
          have t0 : w7.cell? ⟨T, 0, none⟩ = some (.slice (some ⟨M, 0, none⟩) pn pn) := (hkT7.cell 0).trans rfl
          have t1 : w7.cell? ⟨T, 1, none⟩ = some (.slice (some ⟨D, 0, none⟩) (Sha.sha (Sy.body q)).length k9) := (hkT7.cell 1).trans rfl
          have t2 : w7.cell? ⟨T, 2, none⟩ = some (.int .i64 (n3 : Int)) := (hkT7.cell 2).trans rfl
          clear hk7 hg7 hkM hpr hkT7
          go_wp2_with (refine wpl_store_new _ rfl 30 (.tmp 4) (.tmp 36) rfl w.heap.size rfl #[.slice (some ⟨M, 0, none⟩) pn pn, .slice (some ⟨D, 0, none⟩) (Sha.sha (Sy.body q)).length k9, .int .i64 (n3 : Int)] rfl 30 _ hR7 (by kernel_rfl) rfl (one3 _ _ _) ?h2)
          case h2 =>
            intro w8 hk8 hg8
            have hF8 : Fr (fun i => i = w.heap.size) w7 w8 := (Fr.refl _ _).grown hg8 (fun i e => .inl (Option.some.inj e).symm)
            have hk8d := Lib.hid hk8
            have hF8d := Lib.hid hF8
            clear hk8 hg8 hF8 hR7 t0 t1 t2
            go_wp2_with fail
            have hln : ((n3 : Nat) : Int) = ((Sy.part ps l).length : Int) := by rw [hq0d.out, ← hnl3.out]
            have hpe : pn = ps.length := hpnl.out
            refine bodyPost_ret (results_cell_row (P := Tryd.prog) Tryd.results15 _ _ w.heap.size 30 _ (0, 0) _ rfl hk8d.out Tryd.underlying30 rfl (by kernel_rfl)) rfl ⟨some ⟨M, 0, none⟩, pn, pn, some ⟨D, 0, none⟩, (Sha.sha (Sy.body q)).length, k9, by rw [← hln], ?_, ?_, ?_⟩
            · have h := rd_blk (hkM7.out.fr hF8d.out hMw.out.2.1) (by have := hpnd.out; omega)
              rw [← hpe] at h
              exact h.mono (fun i _ h => by rw [h]; exact hMw.out.1)
            · rw [hq0d.out]
              exact (hkD7.out.fr hF8d.out hMw.out.2.2.2.2.2).rd.mono (fun i _ h => by rw [h]; exact hMw.out.2.2.1)
            · exact (hbwc.out.trans (hF7.out.below (fun i h => by rw [h]; exact hMw.out.1) hbwc.out.size)).trans (hF8d.out.below (fun i h => by rw [h]; exact Nat.le_refl _) (Nat.le_trans hbwc.out.size hF7.out.size))
end Go.Proofs.YtajohibeoicepaaDoor

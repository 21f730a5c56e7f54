/-
  Answer, walked.
-/
import Derived.Test.YtajohibeoicepaaDoorSyKid
namespace Sy
/-- What is added for one digest: digests, commands. -/
def ansM (s : List Cm) (d : Dg) : List Dg :=
  if valid d = true ∧ ¬ same (dig s d.pre) d = true ∧ ¬ d.count = 0 then
    (if (part d.pre s).length = 0 then [dig s d.pre] else if ((part d.pre s).length : Int) ≤ 4 ∨ d.count ≤ 4 then [dig s d.pre] else kids s d.pre) else []
def ansF (s : List Cm) (d : Dg) : List Cm :=
  if valid d = true ∧ ¬ same (dig s d.pre) d = true then
    (if d.count = 0 then part d.pre s else if (part d.pre s).length = 0 then [] else if ((part d.pre s).length : Int) ≤ 4 ∨ d.count ≤ 4 then part d.pre s else []) else []
def ansMs (s : List Cm) (l : List Dg) : List Dg := l.flatMap (ansM s)
def ansFs (s : List Cm) (l : List Dg) : List Cm := l.flatMap (ansF s)
theorem ansM_snoc (s : List Cm) (l : List Dg) (d : Dg) : ansMs s (l ++ [d]) = ansMs s l ++ ansM s d := by simp [ansMs]
theorem ansF_snoc (s : List Cm) (l : List Dg) (d : Dg) : ansFs s (l ++ [d]) = ansFs s l ++ ansF s d := by simp [ansFs]
theorem kids_len (s : List Cm) (p : List UInt8) : (kids s p).length = 16 := by simp [kids, kidsT]
theorem ansM_len (s : List Cm) (d : Dg) : (ansM s d).length ≤ 16 := by
  unfold ansM
  split
  · split
    · simp
    · split
      · simp
      · rw [kids_len]; exact Nat.le_refl _
  · simp
theorem ansF_len (s : List Cm) (d : Dg) : (ansF s d).length ≤ s.length := by
  have := part_len d.pre s
  unfold ansF
  split
  · split
    · exact this
    · split
      · simp
      · split
        · exact this
        · simp
  · simp
theorem ansMs_len (s : List Cm) : ∀ l : List Dg, (ansMs s l).length ≤ 16 * l.length
  | [] => by simp [ansMs]
  | d :: l => by
    have := ansM_len s d
    have := ansMs_len s l
    simp only [ansMs, List.flatMap_cons, List.length_append, List.length_cons] at *
    omega
theorem ansFs_len (s : List Cm) : ∀ l : List Dg, (ansFs s l).length ≤ s.length * l.length
  | [] => by simp [ansFs]
  | d :: l => by
    have := ansF_len s d
    have := ansFs_len s l
    simp only [ansFs, List.flatMap_cons, List.length_append, List.length_cons, Nat.mul_add] at *
    omega
end Sy
namespace Go.Proofs.YtajohibeoicepaaDoor
open Go.RowKit Go.Pl
/-- Two rows of the call's own: digests, commands. -/
def AnsAt (wr : World) (B : Nat) (u v : Value) (j1 j2 : Nat) (ms : List Sy.Dg) (fs : List Sy.Cm) : Prop :=
  OwnX lDg wr (fun i => B ≤ i ∧ v.ownBlock ≠ some i) B 30 u j1 ms ∧ OwnX lCm wr (fun i => i < B) B 39 v j2 fs ∧ ∀ g, u.ownBlock = some g → v.ownBlock ≠ some g
theorem AnsAt.up {w w' : World} {B : Nat} {u v : Value} {j1 j2 : Nat} {ms : List Sy.Dg} {fs : List Sy.Cm} (h : AnsAt w B u v j1 j2 ms fs) (hb : Below w.heap.size w w') : AnsAt w' B u v j1 j2 ms fs := ⟨h.1.up hb, h.2.1.up hb, h.2.2⟩
theorem AnsAt.lt {w : World} {B : Nat} {u v : Value} {j1 j2 : Nat} {ms : List Sy.Dg} {fs : List Sy.Cm} (h : AnsAt w B u v j1 j2 ms fs) : (∀ g, u.ownBlock = some g → B ≤ g ∧ g < w.heap.size) ∧ ∀ g, v.ownBlock = some g → B ≤ g ∧ g < w.heap.size := by
  obtain ⟨⟨vs, h1, -⟩, ⟨us, h2, -⟩, -⟩ := h
  exact ⟨own_lt h1, own_lt h2⟩
/-- Digests appended. -/
theorem AnsAt.more {w w' : World} {B : Nat} {u v : Value} {j2 N : Nat} {A : Option Addr} {c : Nat} {ms ys : List Sy.Dg} {fs : List Sy.Cm} {vs us : List Value} (hE : Els lDg w (fun i => (B ≤ i ∧ v.ownBlock ≠ some i) ∧ u.ownBlock ≠ some i) ms vs) (hF : OwnX lCm w (fun i => i < B) B 39 v j2 fs)
    (hd : ∀ g, u.ownBlock = some g → B ≤ g ∧ v.ownBlock ≠ some g) (hy : Els lDg w (fun i => (B ≤ i ∧ v.ownBlock ≠ some i) ∧ u.ownBlock ≠ some i) ys us) (ho : w'.ownsRow B 30 3 (.slice A N c) N (vs ++ us))
    (hg : w.grownBy w' u.ownBlock) (hb : (Value.slice A N c).ownBlock = u.ownBlock ∨ (Value.slice A N c).ownBlock = some w.heap.size) : AnsAt w' B (.slice A N c) v N j2 (ms ++ ys) fs := by
  obtain ⟨xs, k1, k2⟩ := hF
  have hf : Fr (fun i => u.ownBlock = some i) w w' := (Fr.refl _ _).grown hg (fun k e => .inl e)
  refine ⟨OwnX.app hE hy ho hg hb, ⟨xs, own_fr k1 hf (fun g hg h => (hd g h).2 hg), k2.fr hf (fun i h h' => by have := (hd i h').1; omega)⟩, fun g hg => ?_⟩
  rcases hb with hb | hb
  · rw [hb] at hg; exact (hd g hg).2
  · rw [hb] at hg
    intro h
    have h1 := Option.some.inj hg
    have h2 := (own_lt k1 g h).2
    omega
/-- Commands appended. -/
theorem AnsAt.fill {w w' : World} {B : Nat} {u v : Value} {j1 N : Nat} {A : Option Addr} {c : Nat} {ms : List Sy.Dg} {fs ys : List Sy.Cm} {vs us : List Value} (hF : OwnX lDg w (fun i => B ≤ i ∧ v.ownBlock ≠ some i) B 30 u j1 ms) (hE : Els lCm w (fun i => i < B ∧ v.ownBlock ≠ some i) fs vs)
    (hd : ∀ g, u.ownBlock = some g → v.ownBlock ≠ some g) (hy : Els lCm w (fun i => i < B ∧ v.ownBlock ≠ some i) ys us) (ho : w'.ownsRow B 39 6 (.slice A N c) N (vs ++ us))
    (hg : w.grownBy w' v.ownBlock) (hb : (Value.slice A N c).ownBlock = v.ownBlock ∨ (Value.slice A N c).ownBlock = some w.heap.size) : AnsAt w' B u (.slice A N c) j1 N ms (fs ++ ys) := by
  obtain ⟨xs, k1, k2⟩ := hF
  have hf : Fr (fun i => v.ownBlock = some i) w w' := (Fr.refl _ _).grown hg (fun k e => .inl e)
  refine ⟨⟨xs, own_fr k1 hf (fun g hg h => hd g hg h), ((k2.mono (T := fun i => ((B ≤ i ∧ v.ownBlock ≠ some i) ∧ u.ownBlock ≠ some i) ∧ i < w.heap.size) (fun i hi h => ⟨h, hi⟩)).fr hf (fun i h => h.1.1.2)).mono (fun i _ h => ⟨⟨h.1.1.1, fun e => ?_⟩, h.1.2⟩)⟩, OwnX.app hE hy ho hg hb, fun g hg h => ?_⟩
  · rcases hb with hb | hb
    · rw [hb] at h; exact hd g hg h
    · rw [hb] at h
      have h1 := Option.some.inj h
      have h2 := (own_lt k1 g hg).2
      omega
  · rcases hb with hb | hb
    · rw [hb] at e; exact h.1.1.2 e
    · rw [hb] at e
      have h1 := Option.some.inj e
      have h2 := h.2
      omega
set_option maxRecDepth 100000 in
set_option maxHeartbeats 4000000 in
theorem answer_any (w : World) {A Q : Option Addr} {n c qn qc : Nat} {l : List Sy.Cm} {ds : List Sy.Dg} (hK : Kst w) (hs : RdE lCm w (fun i => i < w.heap.size) A n c l) (hn : n ≤ 16) (hz : ∀ x ∈ l, Sy.csz x ≤ 30000000) (hq : RdE lDg w (fun i => i < w.heap.size) Q qn qc ds) (hqn : qn ≤ 1000000) (hpn : ∀ d ∈ ds, d.pre.length ≤ 9000000) :
    Calls Tryd.prog 23 #[.slice A n c, .slice Q qn qc] w fun e w' => ∃ A1 n1 c1 A2 n2 c2, e = .returned (.tuple #[.slice A1 n1 c1, .slice A2 n2 c2]) ∧ RdE lDg w' (fun i => w.heap.size ≤ i) A1 n1 c1 (Sy.ansMs l ds) ∧ RdE lCm w' (fun _ => True) A2 n2 c2 (Sy.ansFs l ds) ∧ Below w.heap.size w w' := by
  have hsd := Lib.hid hs
  have hqd := Lib.hid hq
  have hzd := Lib.hid hz
  have hKd := Lib.hid hK
  have hnd := Lib.hid hn
  have hnl := Lib.hid hs.len
  have hql := Lib.hid hq.len
  have hpnd := Lib.hid hpn
  clear hs hq hz hK hn hpn
  go_enter Tryd.func23, Tryd.ntmps23
  go_wp2_with fail
  go_loopw [11, 4, 5] (fun t u v wr => ∃ (k : Nat) (B1 B2 : Option Addr) (j1 d1 j2 d2 : Nat), k ≤ qn ∧ t = .int .i64 k ∧ u = .slice B1 j1 d1 ∧ v = .slice B2 j2 d2 ∧ AnsAt wr w.heap.size u v j1 j2 (Sy.ansMs l (ds.take k)) (Sy.ansFs l (ds.take k)) ∧ Below w.heap.size w wr) (fun t u v _ => qn - (intOf t).toNat)
  case atStart => exact ⟨0, none, none, 0, 0, 0, 0, Nat.zero_le _, rfl, rfl, rfl, ⟨OwnX.nil _ _ _ _ _, OwnX.nil _ _ _ _ _, fun g h => by cases h⟩, Below.refl _ _⟩
  case round =>
    obtain ⟨k, B1, B2, j1, d1, j2, d2, hk, rfl, rfl, rfl, ho, hb⟩ := hrel
    have hbrd := Lib.hid hb
    have hod := Lib.hid ho
    clear hb ho
    by_cases hlt : k < qn
    · have hkl : k < ds.length := by have := hql.out; omega
      obtain ⟨x, hx⟩ : ∃ x, ds[k]? = some x := ⟨_, List.getElem?_eq_getElem hkl⟩
      have htk : Hid (ds.take (k + 1) = ds.take k ++ [x]) := by
        obtain ⟨hk2, hx2⟩ := List.getElem?_eq_some_iff.1 hx
        show _ = _
        rw [List.take_succ_eq_append_getElem hk2, hx2]
      have hpx : Hid (x.pre.length ≤ 9000000) := hpnd.out x (List.mem_of_getElem? hx)
      have hl12 : Hid (j1 ≤ 16000000 ∧ j2 ≤ 16000000) := by
        have h1 := hod.out.1.len
        have h2 := hod.out.2.1.len
        have h3 := Sy.ansMs_len l (ds.take k)
        have h4 := Sy.ansFs_len l (ds.take k)
        have h5 : (ds.take k).length ≤ 1000000 := by simp; omega
        have h6 : l.length * (ds.take k).length ≤ 16 * (ds.take k).length := Nat.mul_le_mul_right _ (by have := hnl.out; have := hnd.out; omega)
        show _ ∧ _
        omega
      obtain ⟨b, o, u, rfl, hbB, hbl, ⟨P1, p1, q1, D1, m1, e1, rfl, hr1, hr2⟩, hcell⟩ := (hqd.out.fr (Fr.of_below (F := fun _ => False) hbrd.out) (fun _ _ h => h)).get hx
      obtain ⟨z, hz0⟩ : ∃ z, x.count = z := ⟨_, rfl⟩
      have hzd0 := Lib.hid hz0
      have f0 : wr.cell? ⟨b, o + k * 3, none⟩ = some (.slice P1 p1 q1) := hcell 0 _ rfl
      have f1 : wr.cell? ⟨b, o + k * 3 + 1, none⟩ = some (.slice D1 m1 e1) := hcell 1 _ rfl
      have f2 : wr.cell? ⟨b, o + k * 3 + 2, none⟩ = some (.int .i64 z) := hz0 ▸ hcell 2 _ rfl
      have hr1d := Lib.hid hr1
      have hr2d := Lib.hid hr2
      clear hcell hr1 hr2 hx hkl hbB hbl hz0
      go_wp2_with fail
      clear f0 f1 f2
      obtain ⟨w1, hw1⟩ : ∃ w1, wr.alloc (.cells #[.slice P1 p1 q1, .slice D1 m1 e1, .int .i64 z] 30) = w1 := ⟨_, rfl⟩
      obtain ⟨X, hX0⟩ : ∃ X, Hid (wr.heap.size = X) := ⟨_, rfl⟩
      have hX1 : Hid (Blk w1 X 30 #[.slice P1 p1 q1, .slice D1 m1 e1, .int .i64 z]) := by show Blk _ _ _ _; rw [← hw1, ← hX0.out]; exact Blk.new' rfl
      have hb1 : Hid (Below wr.heap.size wr w1) := by show Below _ _ _; rw [← hw1]; exact (Below.refl _ _).alloc (Nat.le_refl _) _
      rw [hw1, hX0.out]
      clear hw1
      have hf1 := Fr.of_below (F := fun _ => False) hb1.out
      have hv := valid_any x w1 (P := P1) (pn := p1) (pc := q1) (A := D1) (n := m1) (c := e1) (hr1d.out.fr hf1 (fun _ _ h => h)) (hr2d.out.fr hf1 (fun _ _ h => h))
      rw [hzd0.out] at hv
      refine hv.mono ?_
      rintro e w2 ⟨rfl, hb2⟩
      have hbr2 : Hid (Below wr.heap.size wr w2) := hb1.out.trans (hb2.mono hb1.out.size)
      have hX2 : Hid (Blk w2 X 30 #[.slice P1 p1 q1, .slice D1 m1 e1, .int .i64 z]) := hX1.out.fr (Fr.of_below (F := fun _ => False) hb2) (fun h => h)
      have hbw2 : Hid (Below w.heap.size w w2) := hbrd.out.trans (hbr2.out.mono hbrd.out.size)
      clear hf1 hv hb2 hb1 hX1
      by_cases hva : Sy.valid x = true
      · rw [hva]
        have hvad := Lib.hid hva
        have c0 : w2.cell? ⟨X, 0, none⟩ = some (.slice P1 p1 q1) := (hX2.out.cell 0).trans rfl
        clear hva
        go_wp2_with fail
        clear c0
        have hf2 := Fr.of_below (F := fun _ => False) hbw2.out
        refine (digest_any w2 (hKd.out.below hbw2.out hKd.out.pos) ((hsd.out.fr hf2 (fun _ _ h => h)).mono (fun i hi _ => hi)) hnd.out hzd.out ((hr1d.out.fr (Fr.of_below (F := fun _ => False) hbr2.out) (fun _ _ h => h)).mono (fun i hi _ => hi)) (by have := hr1d.out.len; have := hpx.out; omega)).mono ?_
        rintro e w3 ⟨P3, p3, q3, A3, n3, c3, rfl, hrp, hra, hb3⟩
        obtain ⟨Z, hZ0⟩ : ∃ Z : Int, ((Sy.part x.pre l).length : Int) = Z := ⟨_, rfl⟩
        have hZ := Lib.hid hZ0
        have hrpd := Lib.hid hrp
        have hrad := Lib.hid hra
        have hb3d := Lib.hid hb3
        rw [hZ0]
        clear hf2 hrp hra hb3 hZ0
        have hX3 := hX2.out.fr (Fr.of_below (F := fun _ => False) hb3d.out) (fun h => h)
        have c0 : w3.cell? ⟨X, 0, none⟩ = some (.slice P1 p1 q1) := (hX3.cell 0).trans rfl
        have c1 : w3.cell? ⟨X, 1, none⟩ = some (.slice D1 m1 e1) := (hX3.cell 1).trans rfl
        have c2 : w3.cell? ⟨X, 2, none⟩ = some (.int .i64 z) := (hX3.cell 2).trans rfl
        have hXl := hX3.lt
        clear hX3
        go_wp2_with fail
        -- BRANCHES
        obtain ⟨Y, hY0⟩ : ∃ Y, Hid (w3.heap.size = Y) := ⟨_, rfl⟩
        obtain ⟨w4, hw4⟩ : ∃ w4, w3.alloc (.cells #[.slice P3 p3 q3, .slice A3 n3 c3, .int .i64 Z] 30) = w4 := ⟨_, rfl⟩
        have hb4 : Hid (Below w3.heap.size w3 w4) := by show Below _ _ _; rw [← hw4]; exact (Below.refl _ _).alloc (Nat.le_refl _) _
        have hY4 : Hid (Blk w4 Y 30 #[.slice P3 p3 q3, .slice A3 n3 c3, .int .i64 Z]) := by show Blk _ _ _ _; rw [← hw4, ← hY0.out]; exact Blk.new' rfl
        rw [hw4, hY0.out]
        clear hw4 c0 c1 c2 hXl
        have hf4 := Fr.of_below (F := fun _ => False) hb4.out
        have hma := match_any w4 (P1 := P3) (p1 := p3) (q1 := q3) (P2 := P1) (p2 := p1) (q2 := q1) (z1 := Z) (z2 := z) (hrad.out.fr hf4 (fun _ _ h => h)) (((hr2d.out.fr (Fr.of_below (F := fun _ => False) hbr2.out) (fun _ _ h => h)).fr (Fr.of_below (F := fun _ => False) hb3d.out) (fun _ _ h => h)).fr hf4 (fun _ _ h => h))
        have hsa : Hid ((decide (Z = z) && Sha.sha (Sy.body (Sy.part x.pre l)) == x.sum) = Sy.same (Sy.dig l x.pre) x) := by show _ = _; rw [← hZ.out, ← hzd0.out]; rfl
        rw [hsa.out] at hma
        refine hma.mono ?_
        rintro e w5 ⟨rfl, hb5⟩
        have hb35 : Hid (Below w3.heap.size w3 w5) := hb4.out.trans (hb5.mono hb4.out.size)
        have hbrw5 : Hid (Below wr.heap.size wr w5) := (hbr2.out.trans (hb3d.out.mono hbr2.out.size)).trans (hb35.out.mono (Nat.le_trans hbr2.out.size hb3d.out.size))
        have hbw5 : Hid (Below w.heap.size w w5) := hbrd.out.trans (hbrw5.out.mono hbrd.out.size)
        have hXw5 : Hid (Blk w5 X 30 #[.slice P1 p1 q1, .slice D1 m1 e1, .int .i64 z]) := (hX2.out.fr (Fr.of_below (F := fun _ => False) hb3d.out) (fun h => h)).fr (Fr.of_below (F := fun _ => False) hb35.out) (fun h => h)
        have hYw5 : Hid (Blk w5 Y 30 #[.slice P3 p3 q3, .slice A3 n3 c3, .int .i64 Z]) := hY4.out.fr (Fr.of_below (F := fun _ => False) hb5) (fun h => h)
        have hownw3 : lDg.R w3 (fun i => w2.heap.size ≤ i ∧ i < w3.heap.size) (Sy.dig l x.pre) [.slice P3 p3 q3, .slice A3 n3 c3, .int .i64 Z] := ⟨P3, p3, q3, A3, n3, c3, by rw [← hZ.out]; rfl, hrpd.out.mono (fun i hi h => ⟨h, hi⟩), hrad.out.mono (fun i hi h => ⟨h, hi⟩)⟩
        have hownw5 : Hid (lDg.R w5 (fun i => w2.heap.size ≤ i ∧ i < w3.heap.size) (Sy.dig l x.pre) [.slice P3 p3 q3, .slice A3 n3 c3, .int .i64 Z]) := lDg.fr hownw3 (Fr.of_below (F := fun _ => False) hb35.out) (fun _ _ h => h)
        have h3w5 : Hid (w3.heap.size ≤ w5.heap.size) := hb35.out.size
        have how5 : Hid (AnsAt w5 w.heap.size (.slice B1 j1 d1) (.slice B2 j2 d2) j1 j2 (Sy.ansMs l (ds.take k)) (Sy.ansFs l (ds.take k))) := hod.out.up hbrw5.out
        have hvw5 : Hid (∀ g, (Value.slice B2 j2 d2).ownBlock = some g → g < w2.heap.size ∨ w3.heap.size ≤ g) := fun g e => .inl (Nat.lt_of_lt_of_le (hod.out.lt.2 g e).2 hbr2.out.size)
        clear hf4 hma hsa hb5 hb4 hY4 hownw3
        by_cases hsm : Sy.same (Sy.dig l x.pre) x = true
        · rw [hsm]
          have hsmd := Lib.hid hsm
          clear hsm
          have hM : Hid (Sy.ansM l x = []) := by show _ = _; rw [Sy.ansM, if_neg (fun h => h.2.1 hsmd.out)]
          have hF : Hid (Sy.ansF l x = []) := by show _ = _; rw [Sy.ansF, if_neg (fun h => h.2 hsmd.out)]
          go_wp2_with fail
          go_roundw
          case rel =>
            refine ⟨k + 1, B1, B2, j1, d1, j2, d2, hlt, by go_num, rfl, rfl, ?_, hbw5.out⟩
            rw [htk.out, Sy.ansM_snoc, Sy.ansF_snoc, hM.out, hF.out, List.append_nil, List.append_nil]
            exact how5.out
          case measure => simp [intOf]; omega
        · rw [(Bool.not_eq_true _).mp hsm]
          have hsmd := Lib.hid hsm
          have hz2 : w5.cell? ⟨X, 2, none⟩ = some (.int .i64 z) := (hXw5.out.cell 2).trans rfl
          have hZ2 : w5.cell? ⟨Y, 2, none⟩ = some (.int .i64 Z) := (hYw5.out.cell 2).trans rfl
          clear hsm
          by_cases hz0 : z = 0
          · have hxz : Hid (x.count = 0) := hzd0.out.trans hz0
            have hM : Hid (Sy.ansM l x = []) := by show _ = _; rw [Sy.ansM, if_neg (fun h => h.2.2 hxz.out)]
            have hF : Hid (Sy.ansF l x = Sy.part x.pre l) := by show _ = _; rw [Sy.ansF, if_pos ⟨hvad.out, hsmd.out⟩, if_pos hxz.out]
            have hz0' : (z == 0) = true := by rw [hz0]; rfl
            clear hz0 hZ2
            have c0 : w5.cell? ⟨X, 0, none⟩ = some (.slice P1 p1 q1) := (hXw5.out.cell 0).trans rfl
            go_wp2_with fail
            clear c0
            have hf6 := Fr.of_below (F := fun _ => False) hbw5.out
            refine (part_els w5 (S := fun i => i < w.heap.size) (fun i h => Nat.lt_of_lt_of_le h hbw5.out.size) (hsd.out.fr hf6 (fun _ _ h => h)) (by have := hnd.out; omega) hzd.out ((hr1d.out.fr (Fr.of_below (F := fun _ => False) hbrw5.out) (fun _ _ h => h)).mono (fun i hi _ => hi))).mono ?_
            rintro e w6 ⟨A6, n6, c6, us, rfl, r6, hE6, hb6⟩
            have hbw6 : Hid (Below w.heap.size w w6) := hbw5.out.trans (hb6.mono hbw5.out.size)
            have hbrw6 : Hid (Below wr.heap.size wr w6) := hbrw5.out.trans (hb6.mono hbrw5.out.size)
            have hXw6 : Hid (Blk w6 X 30 #[.slice P1 p1 q1, .slice D1 m1 e1, .int .i64 z]) := hXw5.out.fr (Fr.of_below (F := fun _ => False) hb6) (fun h => h)
            have hYw6 : Hid (Blk w6 Y 30 #[.slice P3 p3 q3, .slice A3 n3 c3, .int .i64 Z]) := hYw5.out.fr (Fr.of_below (F := fun _ => False) hb6) (fun h => h)
            have hownw6 : Hid (lDg.R w6 (fun i => w2.heap.size ≤ i ∧ i < w3.heap.size) (Sy.dig l x.pre) [.slice P3 p3 q3, .slice A3 n3 c3, .int .i64 Z]) := lDg.fr hownw5.out (Fr.of_below (F := fun _ => False) hb6) (fun _ _ h => h)
            have h3w6 : Hid (w3.heap.size ≤ w6.heap.size) := Nat.le_trans h3w5.out hb6.size
            have hl6 : n6 ≤ 16 := by
              have h1 := r6.len
              have h2 : us.length = (Sy.part x.pre l).length * 6 := hE6.len
              have h3 := Sy.part_len x.pre l
              have h4 := hnl.out
              have h5 := hnd.out
              omega
            have ho6 := how5.out.up hb6
            have hlt6 := ho6.lt
            obtain ⟨hF6, ⟨vs, o6, hEv⟩, hdis⟩ := ho6
            have on6 := hE6.ones
            have hEy : Hid (Els lCm w6 (fun i => i < w.heap.size ∧ (Value.slice B2 j2 d2).ownBlock ≠ some i) (Sy.part x.pre l) us) := hE6.mono (fun i _ h => ⟨h, fun e => by have := (hlt6.2 i e).1; omega⟩)
            have hF6d := Lib.hid hF6
            have hEvd := Lib.hid hEv
            have hdisd := Lib.hid hdis
            have hs6 := hbw6.out.size
            have hj6 : (j2 + n6) * 80 ≤ 140737488355328 := by have := hl12.out; omega
            clear hf6 hb6 hlt6 hF6 hEv hdis hE6
            go_wp2_with (at_builtin; refine wpl_app rfl (.tmp 36) (.tmp 40) 22 rfl w.heap.size 39 _ 6 80 Tryd.underlying22 infoCm rfl (by decide) (by decide) _ rfl j2 vs o6 _ _ n6 c6 rfl _ r6 on6 hj6 hs6 (j2 + n6) rfl ?h2)
            case h2 =>
              intro A7 c7 w7 o7 g7 b7
              have hbw7 : Hid (Below w.heap.size w w7) := app_below hbw6.out g7 (fun k e => (own_lt o6 k e).1) hs6
              have how7 : Hid (AnsAt w7 w.heap.size (.slice B1 j1 d1) (.slice A7 (j2 + n6) c7) j1 (j2 + n6) (Sy.ansMs l (ds.take k)) (Sy.ansFs l (ds.take k) ++ Sy.part x.pre l)) := AnsAt.fill hF6d.out hEvd.out hdisd.out hEy.out o7 g7 b7
              have hvl := own_lt o6
              have hvn : Hid (∀ g, (Value.slice B2 j2 d2).ownBlock = some g → g < wr.heap.size) := fun g e => (hod.out.lt.2 g e).2
              have hFr : Hid (Fr (fun i => (Value.slice B2 j2 d2).ownBlock = some i) w6 w7) := (Fr.refl _ _).grown g7 (fun k e => .inl e)
              have hXn : Hid (X = wr.heap.size ∧ wr.heap.size ≤ w2.heap.size ∧ w2.heap.size ≤ w3.heap.size ∧ w3.heap.size ≤ w6.heap.size) := ⟨hX0.out.symm, hbr2.out.size, hb3d.out.size, h3w6.out⟩
              have hXw7 : Hid (Blk w7 X 30 #[.slice P1 p1 q1, .slice D1 m1 e1, .int .i64 z]) := hXw6.out.fr hFr.out (fun e => by have := hvn.out X e; have := hXn.out; omega)
              have hYw7 : Hid (Blk w7 Y 30 #[.slice P3 p3 q3, .slice A3 n3 c3, .int .i64 Z]) := hYw6.out.fr hFr.out (fun e => by have := hvn.out Y e; have := hXn.out; have := hY0.out; omega)
              have hownw7 : Hid (lDg.R w7 (fun i => w2.heap.size ≤ i ∧ i < w3.heap.size) (Sy.dig l x.pre) [.slice P3 p3 q3, .slice A3 n3 c3, .int .i64 Z]) := lDg.fr hownw6.out hFr.out (fun i h e => by have := hvn.out i e; have := hXn.out; omega)
              have h3w7 : Hid (w3.heap.size ≤ w7.heap.size) := Nat.le_trans h3w6.out g7.size
              have hvw7 : Hid (∀ g, (Value.slice A7 (j2 + n6) c7).ownBlock = some g → g < w2.heap.size ∨ w3.heap.size ≤ g) := fun g e => by
                rcases b7 with b7 | b7
                · rw [b7] at e
                  have := hvn.out g e
                  have := hXn.out
                  omega
                · rw [b7] at e
                  have := Option.some.inj e
                  have := hXn.out
                  omega
              clear o6 r6 on6 hj6 hs6 o7 g7 b7 hvl
              go_wp2_with fail
              go_roundw
              case rel =>
                refine ⟨k + 1, B1, A7, j1, d1, j2 + n6, c7, hlt, by go_num, rfl, rfl, ?_, hbw7.out⟩
                rw [htk.out, Sy.ansM_snoc, Sy.ansF_snoc, hM.out, hF.out, List.append_nil]
                exact how7.out
              case measure => simp [intOf]; omega
          · have hxz : Hid (¬ x.count = 0) := fun h => hz0 (hzd0.out.symm.trans h)
            have hz0' : (z == 0) = false := gneZ hz0
            clear hz0
            by_cases hZ0 : Z = 0
            · have hxZ : Hid ((Sy.part x.pre l).length = 0) := by have := hZ.out; show _ = _; omega
              have hM : Hid (Sy.ansM l x = [Sy.dig l x.pre]) := by show _ = _; rw [Sy.ansM, if_pos ⟨hvad.out, hsmd.out, hxz.out⟩, if_pos hxZ.out]
              have hF : Hid (Sy.ansF l x = []) := by show _ = _; rw [Sy.ansF, if_pos ⟨hvad.out, hsmd.out⟩, if_neg hxz.out, if_pos hxZ.out]
              have hZ0' : (Z == 0) = true := by rw [hZ0]; rfl
              clear hZ0
              have y0 : w5.cell? ⟨Y, 0, none⟩ = some (.slice P3 p3 q3) := (hYw5.out.cell 0).trans rfl
              have y1 : w5.cell? ⟨Y, 1, none⟩ = some (.slice A3 n3 c3) := (hYw5.out.cell 1).trans rfl
              have y2 : w5.cell? ⟨Y, 2, none⟩ = some (.int .i64 Z) := (hYw5.out.cell 2).trans rfl
              have ho8 := how5.out
              have hlt8 := ho8.lt
              obtain ⟨⟨vs8, o8, hE8⟩, hF8, hdis8⟩ := ho8
              have hue : ∀ g, (Value.slice B1 j1 d1).ownBlock = some g → g < wr.heap.size := fun g e => (hod.out.lt.1 g e).2
              have hszs : wr.heap.size ≤ w2.heap.size ∧ w2.heap.size ≤ w3.heap.size := ⟨hbr2.out.size, hb3d.out.size⟩
              have hEy8 : Els lDg w5 (fun i => (w.heap.size ≤ i ∧ (Value.slice B2 j2 d2).ownBlock ≠ some i) ∧ (Value.slice B1 j1 d1).ownBlock ≠ some i) [Sy.dig l x.pre] [.slice P3 p3 q3, .slice A3 n3 c3, .int .i64 Z] :=
                (Els.single hownw5.out).mono (fun i _ h => ⟨⟨by have := hbw2.out.size; omega, fun e => by have := hvw5.out i e; omega⟩, fun e => by have := hue i e; omega⟩)
              have hfa := (Fr.refl (fun _ => False) w5).alloc (.cells #[.slice P3 p3 q3, .slice A3 n3 c3, .int .i64 Z] 30)
              have hE8d : Hid (Els lDg (w5.alloc (.cells #[.slice P3 p3 q3, .slice A3 n3 c3, .int .i64 Z] 30)) (fun i => (w.heap.size ≤ i ∧ (Value.slice B2 j2 d2).ownBlock ≠ some i) ∧ (Value.slice B1 j1 d1).ownBlock ≠ some i) (Sy.ansMs l (ds.take k)) vs8) := hE8.fr hfa (fun _ _ h => h)
              have hEyd : Hid (Els lDg (w5.alloc (.cells #[.slice P3 p3 q3, .slice A3 n3 c3, .int .i64 Z] 30)) (fun i => (w.heap.size ≤ i ∧ (Value.slice B2 j2 d2).ownBlock ≠ some i) ∧ (Value.slice B1 j1 d1).ownBlock ≠ some i) [Sy.dig l x.pre] [.slice P3 p3 q3, .slice A3 n3 c3, .int .i64 Z]) := hEy8.fr hfa (fun _ _ h => h)
              have hF8d : Hid (OwnX lCm (w5.alloc (.cells #[.slice P3 p3 q3, .slice A3 n3 c3, .int .i64 Z] 30)) (fun i => i < w.heap.size) w.heap.size 39 (Value.slice B2 j2 d2) (j2) (Sy.ansFs l (ds.take k))) := hF8.up ((Below.refl _ _).alloc (Nat.le_refl _) _)
              have hdd : Hid (∀ g, (Value.slice B1 j1 d1).ownBlock = some g → w.heap.size ≤ g ∧ (Value.slice B2 j2 d2).ownBlock ≠ some g) := fun g e => ⟨(hlt8.1 g e).1, hdis8 g e⟩
              have o9 : (w5.alloc (.cells #[.slice P3 p3 q3, .slice A3 n3 c3, .int .i64 Z] 30)).ownsRow w.heap.size 30 3 (.slice B1 j1 d1) j1 vs8 := own_alc o8 _
              have ro9 : Row (w5.alloc (.cells #[.slice P3 p3 q3, .slice A3 n3 c3, .int .i64 Z] 30)) (fun i => i = w5.heap.size) 3 (some ⟨w5.heap.size, 0, none⟩) 1 1 [.slice P3 p3 q3, .slice A3 n3 c3, .int .i64 Z] := Row.new w5 _ _ _ rfl rfl (by decide)
              have on9 := one3 (.slice P3 p3 q3) (.slice A3 n3 c3) (.int .i64 Z)
              have hs9 : w.heap.size ≤ (w5.alloc (.cells #[.slice P3 p3 q3, .slice A3 n3 c3, .int .i64 Z] 30)).heap.size := Nat.le_trans hbw5.out.size ((Below.refl w.heap.size w5).alloc hbw5.out.size _).size
              have hj9 : (j1 + 1) * 56 ≤ 140737488355328 := by have := hl12.out; omega
              have hbal : Hid (Below w.heap.size w (w5.alloc (.cells #[.slice P3 p3 q3, .slice A3 n3 c3, .int .i64 Z] 30))) := hbw5.out.alloc hbw5.out.size _
              clear o8 hE8 hF8 hdis8 hlt8 hue hszs hEy8 hfa
              go_wp2_with (at_builtin; refine wpl_app rfl (.tmp 46) (.tmp 48) 33 rfl w.heap.size 30 _ 3 56 Tryd.underlying33 infoDg rfl (by decide) (by decide) _ rfl j1 vs8 o9 _ _ 1 1 rfl _ ro9 on9 hj9 hs9 (j1 + 1) rfl ?h3)
              case h3 =>
                intro A9 c9 w7 o10 g10 b10
                have hbw7 : Hid (Below w.heap.size w w7) := app_below hbal.out g10 (fun k e => (own_lt o9 k e).1) hs9
                have how7 : Hid (AnsAt w7 w.heap.size (.slice A9 (j1 + 1) c9) (Value.slice B2 j2 d2) (j1 + 1) (j2) (Sy.ansMs l (ds.take k) ++ [Sy.dig l x.pre]) (Sy.ansFs l (ds.take k))) := AnsAt.more hE8d.out hF8d.out hdd.out hEyd.out o10 g10 (by rw [World.size_alloc]; exact b10)
                clear o9 ro9 on9 hs9 hj9 o10 g10 b10 y0 y1 y2
                go_wp2_with fail
                go_roundw
                case rel =>
                  refine ⟨k + 1, A9, B2, j1 + 1, c9, j2, d2, hlt, by go_num, rfl, rfl, ?_, hbw7.out⟩
                  rw [htk.out, Sy.ansM_snoc, Sy.ansF_snoc, hM.out, hF.out, List.append_nil]
                  exact how7.out
                case measure => simp [intOf]; omega
            · have hxZ : Hid (¬ (Sy.part x.pre l).length = 0) := by have := hZ.out; show ¬ _; omega
              have hZ0' : (Z == 0) = false := gneZ hZ0
              clear hZ0
              by_cases h4 : Z ≤ 4
              · have hx4 : Hid (((Sy.part x.pre l).length : Int) ≤ 4 ∨ x.count ≤ 4) := by have := hZ.out; show _ ∨ _; omega
                have hM : Hid (Sy.ansM l x = [Sy.dig l x.pre]) := by show _ = _; rw [Sy.ansM, if_pos ⟨hvad.out, hsmd.out, hxz.out⟩, if_neg hxZ.out, if_pos hx4.out]
                have hF : Hid (Sy.ansF l x = Sy.part x.pre l) := by show _ = _; rw [Sy.ansF, if_pos ⟨hvad.out, hsmd.out⟩, if_neg hxz.out, if_neg hxZ.out, if_pos hx4.out]
                have h4' : decide (Z ≤ 4) = true := decide_eq_true h4
                clear h4
                have c0 : w5.cell? ⟨X, 0, none⟩ = some (.slice P1 p1 q1) := (hXw5.out.cell 0).trans rfl
                go_wp2_with fail
                clear c0
                have hf6 := Fr.of_below (F := fun _ => False) hbw5.out
                refine (part_els w5 (S := fun i => i < w.heap.size) (fun i h => Nat.lt_of_lt_of_le h hbw5.out.size) (hsd.out.fr hf6 (fun _ _ h => h)) (by have := hnd.out; omega) hzd.out ((hr1d.out.fr (Fr.of_below (F := fun _ => False) hbrw5.out) (fun _ _ h => h)).mono (fun i hi _ => hi))).mono ?_
                rintro e w6 ⟨A6, n6, c6, us, rfl, r6, hE6, hb6⟩
                have hbw6 : Hid (Below w.heap.size w w6) := hbw5.out.trans (hb6.mono hbw5.out.size)
                have hbrw6 : Hid (Below wr.heap.size wr w6) := hbrw5.out.trans (hb6.mono hbrw5.out.size)
                have hXw6 : Hid (Blk w6 X 30 #[.slice P1 p1 q1, .slice D1 m1 e1, .int .i64 z]) := hXw5.out.fr (Fr.of_below (F := fun _ => False) hb6) (fun h => h)
                have hYw6 : Hid (Blk w6 Y 30 #[.slice P3 p3 q3, .slice A3 n3 c3, .int .i64 Z]) := hYw5.out.fr (Fr.of_below (F := fun _ => False) hb6) (fun h => h)
                have hownw6 : Hid (lDg.R w6 (fun i => w2.heap.size ≤ i ∧ i < w3.heap.size) (Sy.dig l x.pre) [.slice P3 p3 q3, .slice A3 n3 c3, .int .i64 Z]) := lDg.fr hownw5.out (Fr.of_below (F := fun _ => False) hb6) (fun _ _ h => h)
                have h3w6 : Hid (w3.heap.size ≤ w6.heap.size) := Nat.le_trans h3w5.out hb6.size
                have hl6 : n6 ≤ 16 := by
                  have h1 := r6.len
                  have h2 : us.length = (Sy.part x.pre l).length * 6 := hE6.len
                  have h3 := Sy.part_len x.pre l
                  have h4 := hnl.out
                  have h5 := hnd.out
                  omega
                have ho6 := how5.out.up hb6
                have hlt6 := ho6.lt
                obtain ⟨hF6, ⟨vs, o6, hEv⟩, hdis⟩ := ho6
                have on6 := hE6.ones
                have hEy : Hid (Els lCm w6 (fun i => i < w.heap.size ∧ (Value.slice B2 j2 d2).ownBlock ≠ some i) (Sy.part x.pre l) us) := hE6.mono (fun i _ h => ⟨h, fun e => by have := (hlt6.2 i e).1; omega⟩)
                have hF6d := Lib.hid hF6
                have hEvd := Lib.hid hEv
                have hdisd := Lib.hid hdis
                have hs6 := hbw6.out.size
                have hj6 : (j2 + n6) * 80 ≤ 140737488355328 := by have := hl12.out; omega
                clear hf6 hb6 hlt6 hF6 hEv hdis hE6
                go_wp2_with (at_builtin; refine wpl_app rfl (.tmp 59) (.tmp 63) 22 rfl w.heap.size 39 _ 6 80 Tryd.underlying22 infoCm rfl (by decide) (by decide) _ rfl j2 vs o6 _ _ n6 c6 rfl _ r6 on6 hj6 hs6 (j2 + n6) rfl ?h2)
                case h2 =>
                  intro A7 c7 w7 o7 g7 b7
                  have hbw7 : Hid (Below w.heap.size w w7) := app_below hbw6.out g7 (fun k e => (own_lt o6 k e).1) hs6
                  have how7 : Hid (AnsAt w7 w.heap.size (.slice B1 j1 d1) (.slice A7 (j2 + n6) c7) j1 (j2 + n6) (Sy.ansMs l (ds.take k)) (Sy.ansFs l (ds.take k) ++ Sy.part x.pre l)) := AnsAt.fill hF6d.out hEvd.out hdisd.out hEy.out o7 g7 b7
                  have hvl := own_lt o6
                  have hvn : Hid (∀ g, (Value.slice B2 j2 d2).ownBlock = some g → g < wr.heap.size) := fun g e => (hod.out.lt.2 g e).2
                  have hFr : Hid (Fr (fun i => (Value.slice B2 j2 d2).ownBlock = some i) w6 w7) := (Fr.refl _ _).grown g7 (fun k e => .inl e)
                  have hXn : Hid (X = wr.heap.size ∧ wr.heap.size ≤ w2.heap.size ∧ w2.heap.size ≤ w3.heap.size ∧ w3.heap.size ≤ w6.heap.size) := ⟨hX0.out.symm, hbr2.out.size, hb3d.out.size, h3w6.out⟩
                  have hXw7 : Hid (Blk w7 X 30 #[.slice P1 p1 q1, .slice D1 m1 e1, .int .i64 z]) := hXw6.out.fr hFr.out (fun e => by have := hvn.out X e; have := hXn.out; omega)
                  have hYw7 : Hid (Blk w7 Y 30 #[.slice P3 p3 q3, .slice A3 n3 c3, .int .i64 Z]) := hYw6.out.fr hFr.out (fun e => by have := hvn.out Y e; have := hXn.out; have := hY0.out; omega)
                  have hownw7 : Hid (lDg.R w7 (fun i => w2.heap.size ≤ i ∧ i < w3.heap.size) (Sy.dig l x.pre) [.slice P3 p3 q3, .slice A3 n3 c3, .int .i64 Z]) := lDg.fr hownw6.out hFr.out (fun i h e => by have := hvn.out i e; have := hXn.out; omega)
                  have h3w7 : Hid (w3.heap.size ≤ w7.heap.size) := Nat.le_trans h3w6.out g7.size
                  have hvw7 : Hid (∀ g, (Value.slice A7 (j2 + n6) c7).ownBlock = some g → g < w2.heap.size ∨ w3.heap.size ≤ g) := fun g e => by
                    rcases b7 with b7 | b7
                    · rw [b7] at e
                      have := hvn.out g e
                      have := hXn.out
                      omega
                    · rw [b7] at e
                      have := Option.some.inj e
                      have := hXn.out
                      omega
                  clear o6 r6 on6 hj6 hs6 o7 g7 b7 hvl
                  have y0 : w7.cell? ⟨Y, 0, none⟩ = some (.slice P3 p3 q3) := (hYw7.out.cell 0).trans rfl
                  have y1 : w7.cell? ⟨Y, 1, none⟩ = some (.slice A3 n3 c3) := (hYw7.out.cell 1).trans rfl
                  have y2 : w7.cell? ⟨Y, 2, none⟩ = some (.int .i64 Z) := (hYw7.out.cell 2).trans rfl
                  have ho8 := how7.out
                  have hlt8 := ho8.lt
                  obtain ⟨⟨vs8, o8, hE8⟩, hF8, hdis8⟩ := ho8
                  have hue : ∀ g, (Value.slice B1 j1 d1).ownBlock = some g → g < wr.heap.size := fun g e => (hod.out.lt.1 g e).2
                  have hszs : wr.heap.size ≤ w2.heap.size ∧ w2.heap.size ≤ w3.heap.size := ⟨hbr2.out.size, hb3d.out.size⟩
                  have hEy8 : Els lDg w7 (fun i => (w.heap.size ≤ i ∧ (Value.slice A7 (j2 + n6) c7).ownBlock ≠ some i) ∧ (Value.slice B1 j1 d1).ownBlock ≠ some i) [Sy.dig l x.pre] [.slice P3 p3 q3, .slice A3 n3 c3, .int .i64 Z] :=
                    (Els.single hownw7.out).mono (fun i _ h => ⟨⟨by have := hbw2.out.size; omega, fun e => by have := hvw7.out i e; omega⟩, fun e => by have := hue i e; omega⟩)
                  have hfa := (Fr.refl (fun _ => False) w7).alloc (.cells #[.slice P3 p3 q3, .slice A3 n3 c3, .int .i64 Z] 30)
                  have hE8d : Hid (Els lDg (w7.alloc (.cells #[.slice P3 p3 q3, .slice A3 n3 c3, .int .i64 Z] 30)) (fun i => (w.heap.size ≤ i ∧ (Value.slice A7 (j2 + n6) c7).ownBlock ≠ some i) ∧ (Value.slice B1 j1 d1).ownBlock ≠ some i) (Sy.ansMs l (ds.take k)) vs8) := hE8.fr hfa (fun _ _ h => h)
                  have hEyd : Hid (Els lDg (w7.alloc (.cells #[.slice P3 p3 q3, .slice A3 n3 c3, .int .i64 Z] 30)) (fun i => (w.heap.size ≤ i ∧ (Value.slice A7 (j2 + n6) c7).ownBlock ≠ some i) ∧ (Value.slice B1 j1 d1).ownBlock ≠ some i) [Sy.dig l x.pre] [.slice P3 p3 q3, .slice A3 n3 c3, .int .i64 Z]) := hEy8.fr hfa (fun _ _ h => h)
                  have hF8d : Hid (OwnX lCm (w7.alloc (.cells #[.slice P3 p3 q3, .slice A3 n3 c3, .int .i64 Z] 30)) (fun i => i < w.heap.size) w.heap.size 39 (Value.slice A7 (j2 + n6) c7) (j2 + n6) (Sy.ansFs l (ds.take k) ++ Sy.part x.pre l)) := hF8.up ((Below.refl _ _).alloc (Nat.le_refl _) _)
                  have hdd : Hid (∀ g, (Value.slice B1 j1 d1).ownBlock = some g → w.heap.size ≤ g ∧ (Value.slice A7 (j2 + n6) c7).ownBlock ≠ some g) := fun g e => ⟨(hlt8.1 g e).1, hdis8 g e⟩
                  have o9 : (w7.alloc (.cells #[.slice P3 p3 q3, .slice A3 n3 c3, .int .i64 Z] 30)).ownsRow w.heap.size 30 3 (.slice B1 j1 d1) j1 vs8 := own_alc o8 _
                  have ro9 : Row (w7.alloc (.cells #[.slice P3 p3 q3, .slice A3 n3 c3, .int .i64 Z] 30)) (fun i => i = w7.heap.size) 3 (some ⟨w7.heap.size, 0, none⟩) 1 1 [.slice P3 p3 q3, .slice A3 n3 c3, .int .i64 Z] := Row.new w7 _ _ _ rfl rfl (by decide)
                  have on9 := one3 (.slice P3 p3 q3) (.slice A3 n3 c3) (.int .i64 Z)
                  have hs9 : w.heap.size ≤ (w7.alloc (.cells #[.slice P3 p3 q3, .slice A3 n3 c3, .int .i64 Z] 30)).heap.size := Nat.le_trans hbw7.out.size ((Below.refl w.heap.size w7).alloc hbw7.out.size _).size
                  have hj9 : (j1 + 1) * 56 ≤ 140737488355328 := by have := hl12.out; omega
                  have hbal : Hid (Below w.heap.size w (w7.alloc (.cells #[.slice P3 p3 q3, .slice A3 n3 c3, .int .i64 Z] 30))) := hbw7.out.alloc hbw7.out.size _
                  clear o8 hE8 hF8 hdis8 hlt8 hue hszs hEy8 hfa
                  go_wp2_with (at_builtin; refine wpl_app rfl (.tmp 65) (.tmp 67) 33 rfl w.heap.size 30 _ 3 56 Tryd.underlying33 infoDg rfl (by decide) (by decide) _ rfl j1 vs8 o9 _ _ 1 1 rfl _ ro9 on9 hj9 hs9 (j1 + 1) rfl ?h3)
                  case h3 =>
                    intro A9 c9 w8 o10 g10 b10
                    have hbw8 : Hid (Below w.heap.size w w8) := app_below hbal.out g10 (fun k e => (own_lt o9 k e).1) hs9
                    have how8 : Hid (AnsAt w8 w.heap.size (.slice A9 (j1 + 1) c9) (Value.slice A7 (j2 + n6) c7) (j1 + 1) (j2 + n6) (Sy.ansMs l (ds.take k) ++ [Sy.dig l x.pre]) (Sy.ansFs l (ds.take k) ++ Sy.part x.pre l)) := AnsAt.more hE8d.out hF8d.out hdd.out hEyd.out o10 g10 (by rw [World.size_alloc]; exact b10)
                    clear o9 ro9 on9 hs9 hj9 o10 g10 b10 y0 y1 y2
                    go_wp2_with fail
                    go_roundw
                    case rel =>
                      refine ⟨k + 1, A9, A7, j1 + 1, c9, j2 + n6, c7, hlt, by go_num, rfl, rfl, ?_, hbw8.out⟩
                      rw [htk.out, Sy.ansM_snoc, Sy.ansF_snoc, hM.out, hF.out]
                      exact how8.out
                    case measure => simp [intOf]; omega
              · by_cases h5 : z ≤ 4
                · have hx4 : Hid (((Sy.part x.pre l).length : Int) ≤ 4 ∨ x.count ≤ 4) := by have := hzd0.out; show _ ∨ _; omega
                  have hM : Hid (Sy.ansM l x = [Sy.dig l x.pre]) := by show _ = _; rw [Sy.ansM, if_pos ⟨hvad.out, hsmd.out, hxz.out⟩, if_neg hxZ.out, if_pos hx4.out]
                  have hF : Hid (Sy.ansF l x = Sy.part x.pre l) := by show _ = _; rw [Sy.ansF, if_pos ⟨hvad.out, hsmd.out⟩, if_neg hxz.out, if_neg hxZ.out, if_pos hx4.out]
                  have h4' : decide (Z ≤ 4) = false := decide_eq_false h4
                  have h5' : decide (z ≤ 4) = true := decide_eq_true h5
                  clear h4 h5
                  have c0 : w5.cell? ⟨X, 0, none⟩ = some (.slice P1 p1 q1) := (hXw5.out.cell 0).trans rfl
                  go_wp2_with fail
                  clear c0
                  have hf6 := Fr.of_below (F := fun _ => False) hbw5.out
                  refine (part_els w5 (S := fun i => i < w.heap.size) (fun i h => Nat.lt_of_lt_of_le h hbw5.out.size) (hsd.out.fr hf6 (fun _ _ h => h)) (by have := hnd.out; omega) hzd.out ((hr1d.out.fr (Fr.of_below (F := fun _ => False) hbrw5.out) (fun _ _ h => h)).mono (fun i hi _ => hi))).mono ?_
                  rintro e w6 ⟨A6, n6, c6, us, rfl, r6, hE6, hb6⟩
                  have hbw6 : Hid (Below w.heap.size w w6) := hbw5.out.trans (hb6.mono hbw5.out.size)
                  have hbrw6 : Hid (Below wr.heap.size wr w6) := hbrw5.out.trans (hb6.mono hbrw5.out.size)
                  have hXw6 : Hid (Blk w6 X 30 #[.slice P1 p1 q1, .slice D1 m1 e1, .int .i64 z]) := hXw5.out.fr (Fr.of_below (F := fun _ => False) hb6) (fun h => h)
                  have hYw6 : Hid (Blk w6 Y 30 #[.slice P3 p3 q3, .slice A3 n3 c3, .int .i64 Z]) := hYw5.out.fr (Fr.of_below (F := fun _ => False) hb6) (fun h => h)
                  have hownw6 : Hid (lDg.R w6 (fun i => w2.heap.size ≤ i ∧ i < w3.heap.size) (Sy.dig l x.pre) [.slice P3 p3 q3, .slice A3 n3 c3, .int .i64 Z]) := lDg.fr hownw5.out (Fr.of_below (F := fun _ => False) hb6) (fun _ _ h => h)
                  have h3w6 : Hid (w3.heap.size ≤ w6.heap.size) := Nat.le_trans h3w5.out hb6.size
                  have hl6 : n6 ≤ 16 := by
                    have h1 := r6.len
                    have h2 : us.length = (Sy.part x.pre l).length * 6 := hE6.len
                    have h3 := Sy.part_len x.pre l
                    have h4 := hnl.out
                    have h5 := hnd.out
                    omega
                  have ho6 := how5.out.up hb6
                  have hlt6 := ho6.lt
                  obtain ⟨hF6, ⟨vs, o6, hEv⟩, hdis⟩ := ho6
                  have on6 := hE6.ones
                  have hEy : Hid (Els lCm w6 (fun i => i < w.heap.size ∧ (Value.slice B2 j2 d2).ownBlock ≠ some i) (Sy.part x.pre l) us) := hE6.mono (fun i _ h => ⟨h, fun e => by have := (hlt6.2 i e).1; omega⟩)
                  have hF6d := Lib.hid hF6
                  have hEvd := Lib.hid hEv
                  have hdisd := Lib.hid hdis
                  have hs6 := hbw6.out.size
                  have hj6 : (j2 + n6) * 80 ≤ 140737488355328 := by have := hl12.out; omega
                  clear hf6 hb6 hlt6 hF6 hEv hdis hE6
                  go_wp2_with (at_builtin; refine wpl_app rfl (.tmp 59) (.tmp 63) 22 rfl w.heap.size 39 _ 6 80 Tryd.underlying22 infoCm rfl (by decide) (by decide) _ rfl j2 vs o6 _ _ n6 c6 rfl _ r6 on6 hj6 hs6 (j2 + n6) rfl ?h2)
                  case h2 =>
                    intro A7 c7 w7 o7 g7 b7
                    have hbw7 : Hid (Below w.heap.size w w7) := app_below hbw6.out g7 (fun k e => (own_lt o6 k e).1) hs6
                    have how7 : Hid (AnsAt w7 w.heap.size (.slice B1 j1 d1) (.slice A7 (j2 + n6) c7) j1 (j2 + n6) (Sy.ansMs l (ds.take k)) (Sy.ansFs l (ds.take k) ++ Sy.part x.pre l)) := AnsAt.fill hF6d.out hEvd.out hdisd.out hEy.out o7 g7 b7
                    have hvl := own_lt o6
                    have hvn : Hid (∀ g, (Value.slice B2 j2 d2).ownBlock = some g → g < wr.heap.size) := fun g e => (hod.out.lt.2 g e).2
                    have hFr : Hid (Fr (fun i => (Value.slice B2 j2 d2).ownBlock = some i) w6 w7) := (Fr.refl _ _).grown g7 (fun k e => .inl e)
                    have hXn : Hid (X = wr.heap.size ∧ wr.heap.size ≤ w2.heap.size ∧ w2.heap.size ≤ w3.heap.size ∧ w3.heap.size ≤ w6.heap.size) := ⟨hX0.out.symm, hbr2.out.size, hb3d.out.size, h3w6.out⟩
                    have hXw7 : Hid (Blk w7 X 30 #[.slice P1 p1 q1, .slice D1 m1 e1, .int .i64 z]) := hXw6.out.fr hFr.out (fun e => by have := hvn.out X e; have := hXn.out; omega)
                    have hYw7 : Hid (Blk w7 Y 30 #[.slice P3 p3 q3, .slice A3 n3 c3, .int .i64 Z]) := hYw6.out.fr hFr.out (fun e => by have := hvn.out Y e; have := hXn.out; have := hY0.out; omega)
                    have hownw7 : Hid (lDg.R w7 (fun i => w2.heap.size ≤ i ∧ i < w3.heap.size) (Sy.dig l x.pre) [.slice P3 p3 q3, .slice A3 n3 c3, .int .i64 Z]) := lDg.fr hownw6.out hFr.out (fun i h e => by have := hvn.out i e; have := hXn.out; omega)
                    have h3w7 : Hid (w3.heap.size ≤ w7.heap.size) := Nat.le_trans h3w6.out g7.size
                    have hvw7 : Hid (∀ g, (Value.slice A7 (j2 + n6) c7).ownBlock = some g → g < w2.heap.size ∨ w3.heap.size ≤ g) := fun g e => by
                      rcases b7 with b7 | b7
                      · rw [b7] at e
                        have := hvn.out g e
                        have := hXn.out
                        omega
                      · rw [b7] at e
                        have := Option.some.inj e
                        have := hXn.out
                        omega
                    clear o6 r6 on6 hj6 hs6 o7 g7 b7 hvl
                    have y0 : w7.cell? ⟨Y, 0, none⟩ = some (.slice P3 p3 q3) := (hYw7.out.cell 0).trans rfl
                    have y1 : w7.cell? ⟨Y, 1, none⟩ = some (.slice A3 n3 c3) := (hYw7.out.cell 1).trans rfl
                    have y2 : w7.cell? ⟨Y, 2, none⟩ = some (.int .i64 Z) := (hYw7.out.cell 2).trans rfl
                    have ho8 := how7.out
                    have hlt8 := ho8.lt
                    obtain ⟨⟨vs8, o8, hE8⟩, hF8, hdis8⟩ := ho8
                    have hue : ∀ g, (Value.slice B1 j1 d1).ownBlock = some g → g < wr.heap.size := fun g e => (hod.out.lt.1 g e).2
                    have hszs : wr.heap.size ≤ w2.heap.size ∧ w2.heap.size ≤ w3.heap.size := ⟨hbr2.out.size, hb3d.out.size⟩
                    have hEy8 : Els lDg w7 (fun i => (w.heap.size ≤ i ∧ (Value.slice A7 (j2 + n6) c7).ownBlock ≠ some i) ∧ (Value.slice B1 j1 d1).ownBlock ≠ some i) [Sy.dig l x.pre] [.slice P3 p3 q3, .slice A3 n3 c3, .int .i64 Z] :=
                      (Els.single hownw7.out).mono (fun i _ h => ⟨⟨by have := hbw2.out.size; omega, fun e => by have := hvw7.out i e; omega⟩, fun e => by have := hue i e; omega⟩)
                    have hfa := (Fr.refl (fun _ => False) w7).alloc (.cells #[.slice P3 p3 q3, .slice A3 n3 c3, .int .i64 Z] 30)
                    have hE8d : Hid (Els lDg (w7.alloc (.cells #[.slice P3 p3 q3, .slice A3 n3 c3, .int .i64 Z] 30)) (fun i => (w.heap.size ≤ i ∧ (Value.slice A7 (j2 + n6) c7).ownBlock ≠ some i) ∧ (Value.slice B1 j1 d1).ownBlock ≠ some i) (Sy.ansMs l (ds.take k)) vs8) := hE8.fr hfa (fun _ _ h => h)
                    have hEyd : Hid (Els lDg (w7.alloc (.cells #[.slice P3 p3 q3, .slice A3 n3 c3, .int .i64 Z] 30)) (fun i => (w.heap.size ≤ i ∧ (Value.slice A7 (j2 + n6) c7).ownBlock ≠ some i) ∧ (Value.slice B1 j1 d1).ownBlock ≠ some i) [Sy.dig l x.pre] [.slice P3 p3 q3, .slice A3 n3 c3, .int .i64 Z]) := hEy8.fr hfa (fun _ _ h => h)
                    have hF8d : Hid (OwnX lCm (w7.alloc (.cells #[.slice P3 p3 q3, .slice A3 n3 c3, .int .i64 Z] 30)) (fun i => i < w.heap.size) w.heap.size 39 (Value.slice A7 (j2 + n6) c7) (j2 + n6) (Sy.ansFs l (ds.take k) ++ Sy.part x.pre l)) := hF8.up ((Below.refl _ _).alloc (Nat.le_refl _) _)
                    have hdd : Hid (∀ g, (Value.slice B1 j1 d1).ownBlock = some g → w.heap.size ≤ g ∧ (Value.slice A7 (j2 + n6) c7).ownBlock ≠ some g) := fun g e => ⟨(hlt8.1 g e).1, hdis8 g e⟩
                    have o9 : (w7.alloc (.cells #[.slice P3 p3 q3, .slice A3 n3 c3, .int .i64 Z] 30)).ownsRow w.heap.size 30 3 (.slice B1 j1 d1) j1 vs8 := own_alc o8 _
                    have ro9 : Row (w7.alloc (.cells #[.slice P3 p3 q3, .slice A3 n3 c3, .int .i64 Z] 30)) (fun i => i = w7.heap.size) 3 (some ⟨w7.heap.size, 0, none⟩) 1 1 [.slice P3 p3 q3, .slice A3 n3 c3, .int .i64 Z] := Row.new w7 _ _ _ rfl rfl (by decide)
                    have on9 := one3 (.slice P3 p3 q3) (.slice A3 n3 c3) (.int .i64 Z)
                    have hs9 : w.heap.size ≤ (w7.alloc (.cells #[.slice P3 p3 q3, .slice A3 n3 c3, .int .i64 Z] 30)).heap.size := Nat.le_trans hbw7.out.size ((Below.refl w.heap.size w7).alloc hbw7.out.size _).size
                    have hj9 : (j1 + 1) * 56 ≤ 140737488355328 := by have := hl12.out; omega
                    have hbal : Hid (Below w.heap.size w (w7.alloc (.cells #[.slice P3 p3 q3, .slice A3 n3 c3, .int .i64 Z] 30))) := hbw7.out.alloc hbw7.out.size _
                    clear o8 hE8 hF8 hdis8 hlt8 hue hszs hEy8 hfa
                    go_wp2_with (at_builtin; refine wpl_app rfl (.tmp 65) (.tmp 67) 33 rfl w.heap.size 30 _ 3 56 Tryd.underlying33 infoDg rfl (by decide) (by decide) _ rfl j1 vs8 o9 _ _ 1 1 rfl _ ro9 on9 hj9 hs9 (j1 + 1) rfl ?h3)
                    case h3 =>
                      intro A9 c9 w8 o10 g10 b10
                      have hbw8 : Hid (Below w.heap.size w w8) := app_below hbal.out g10 (fun k e => (own_lt o9 k e).1) hs9
                      have how8 : Hid (AnsAt w8 w.heap.size (.slice A9 (j1 + 1) c9) (Value.slice A7 (j2 + n6) c7) (j1 + 1) (j2 + n6) (Sy.ansMs l (ds.take k) ++ [Sy.dig l x.pre]) (Sy.ansFs l (ds.take k) ++ Sy.part x.pre l)) := AnsAt.more hE8d.out hF8d.out hdd.out hEyd.out o10 g10 (by rw [World.size_alloc]; exact b10)
                      clear o9 ro9 on9 hs9 hj9 o10 g10 b10 y0 y1 y2
                      go_wp2_with fail
                      go_roundw
                      case rel =>
                        refine ⟨k + 1, A9, A7, j1 + 1, c9, j2 + n6, c7, hlt, by go_num, rfl, rfl, ?_, hbw8.out⟩
                        rw [htk.out, Sy.ansM_snoc, Sy.ansF_snoc, hM.out, hF.out]
                        exact how8.out
                      case measure => simp [intOf]; omega
                · have hx4 : Hid (¬ (((Sy.part x.pre l).length : Int) ≤ 4 ∨ x.count ≤ 4)) := by have := hzd0.out; have := hZ.out; show ¬ _; omega
                  have hM : Hid (Sy.ansM l x = Sy.kids l x.pre) := by show _ = _; rw [Sy.ansM, if_pos ⟨hvad.out, hsmd.out, hxz.out⟩, if_neg hxZ.out, if_neg hx4.out]
                  have hF : Hid (Sy.ansF l x = []) := by show _ = _; rw [Sy.ansF, if_pos ⟨hvad.out, hsmd.out⟩, if_neg hxz.out, if_neg hxZ.out, if_neg hx4.out]
                  have h4' : decide (Z ≤ 4) = false := decide_eq_false h4
                  have h5' : decide (z ≤ 4) = false := decide_eq_false h5
                  have c0 : w5.cell? ⟨X, 0, none⟩ = some (.slice P1 p1 q1) := (hXw5.out.cell 0).trans rfl
                  clear h4 h5
                  go_wp2_with fail
                  clear c0
                  have hf6 := Fr.of_below (F := fun _ => False) hbw5.out
                  refine (kids_any w5 (hKd.out.below hbw5.out hKd.out.pos) ((hsd.out.fr hf6 (fun _ _ h => h)).mono (fun i hi _ => hi)) hnd.out hzd.out ((hr1d.out.fr (Fr.of_below (F := fun _ => False) hbrw5.out) (fun _ _ h => h)).mono (fun i hi _ => hi)) (by have := hr1d.out.len; have := hpx.out; omega)).mono ?_
                  rintro e w6 ⟨A6, c6, rfl, ⟨us, r6, hE6⟩, hb6⟩
                  have hbw6 : Hid (Below w.heap.size w w6) := hbw5.out.trans (hb6.mono hbw5.out.size)
                  have ho6 := how5.out.up hb6
                  have hlt5 := how5.out.lt
                  obtain ⟨⟨vs, o6, hEv⟩, hF6, hdis⟩ := ho6
                  have hF6d := Lib.hid hF6
                  have hEvd := Lib.hid hEv
                  have hdd : Hid (∀ g, (Value.slice B1 j1 d1).ownBlock = some g → w.heap.size ≤ g ∧ (Value.slice B2 j2 d2).ownBlock ≠ some g) := fun g e => ⟨(hlt5.1 g e).1, hdis g e⟩
                  have hEy : Hid (Els lDg w6 (fun i => (w.heap.size ≤ i ∧ (Value.slice B2 j2 d2).ownBlock ≠ some i) ∧ (Value.slice B1 j1 d1).ownBlock ≠ some i) (Sy.kids l x.pre) us) := hE6.mono (fun i _ h => ⟨⟨Nat.le_trans hbw5.out.size h, fun e => by have := (hlt5.2 i e).2; omega⟩, fun e => by have := (hlt5.1 i e).2; omega⟩)
                  have on6 := hE6.ones
                  have hs6 := hbw6.out.size
                  have hj6 : (j1 + 16) * 56 ≤ 140737488355328 := by have := hl12.out; omega
                  clear hf6 hb6 hF6 hEv hdis hE6 hlt5
                  go_wp2_with (at_builtin; refine wpl_app rfl (.tmp 22) (.tmp 26) 33 rfl w.heap.size 30 _ 3 56 Tryd.underlying33 infoDg rfl (by decide) (by decide) _ rfl j1 vs o6 _ _ 16 c6 rfl _ r6 on6 hj6 hs6 (j1 + 16) rfl ?h2)
                  case h2 =>
                    intro A9 c9 w7 o10 g10 b10
                    have hbw7 : Hid (Below w.heap.size w w7) := app_below hbw6.out g10 (fun k e => (own_lt o6 k e).1) hs6
                    have how7 : Hid (AnsAt w7 w.heap.size (.slice A9 (j1 + 16) c9) (.slice B2 j2 d2) (j1 + 16) j2 (Sy.ansMs l (ds.take k) ++ Sy.kids l x.pre) (Sy.ansFs l (ds.take k))) := AnsAt.more hEvd.out hF6d.out hdd.out hEy.out o10 g10 b10
                    clear o6 r6 on6 hj6 hs6 o10 g10 b10
                    go_wp2_with fail
                    go_roundw
                    case rel =>
                      refine ⟨k + 1, A9, B2, j1 + 16, c9, j2, d2, hlt, by go_num, rfl, rfl, ?_, hbw7.out⟩
                      rw [htk.out, Sy.ansM_snoc, Sy.ansF_snoc, hM.out, hF.out, List.append_nil]
                      exact how7.out
                    case measure => simp [intOf]; omega
        -- END
      · rw [(Bool.not_eq_true _).mp hva]
        have hvad := Lib.hid hva
        clear hva
        go_wp2_with fail
        go_roundw
        case rel =>
          refine ⟨k + 1, B1, B2, j1, d1, j2, d2, hlt, by go_num, rfl, rfl, ?_, hbw2.out⟩
          rw [htk.out, Sy.ansM_snoc, Sy.ansF_snoc, Sy.ansM, Sy.ansF, if_neg (fun h => hvad.out h.1), if_neg (fun h => hvad.out h.1), List.append_nil, List.append_nil]
          exact hod.out.up hbr2.out
        case measure => simp [intOf]; omega
    · have hkn := Lib.hid (show k = qn by omega)
      go_wp2_with fail
      go_returns
      have e : ds.take k = ds := by rw [hkn.out, hql.out]; exact List.take_length
      have h := hod.out
      rw [e] at h
      exact ⟨B1, j1, d1, B2, j2, d2, rfl, h.1.rd.mono (fun i _ h => h.elim (fun h => h.1) id), h.2.1.rd.mono (fun _ _ _ => trivial), hbrd.out⟩
end Go.Proofs.YtajohibeoicepaaDoor

/-
  The reference's Follow and Check, walked.
-/
import Derived.Test.YthoaenpbmmjokaaDoorObCk
namespace Go.Pl
open Go.RowKit
/-- A slice of byte slices that grows, a row of the call's own. -/
structure Tk (w : World) (tb : TypeId) (B : Nat) (TV : Value) (tk : List (List UInt8)) (vs : List Value) : Prop where
  own : w.ownsRow B tb 1 TV tk.length vs
  els : SlsIs w (fun i => TV.ownBlock ≠ some i) tk vs
section
variable {w w' : World} {tb : TypeId} {B : Nat} {TV : Value} {tk : List (List UInt8)} {vs : List Value}
theorem Tk.up (h : Tk w tb B TV tk vs) (hb : Below w.heap.size w w') : Tk w' tb B TV tk vs :=
  ⟨own_fr h.own (Fr.of_below (F := fun _ => False) hb) (fun _ _ h => h), h.els.fr (Fr.of_below (F := fun _ => False) hb) (fun _ _ h => h)⟩
theorem Tk.push (h : Tk w tb B TV tk vs) {sv : Value} {st : List UInt8} {o : Obj} (hs : SlIs w (fun i => TV.ownBlock ≠ some i) sv st) {A : Option Addr} {c : Nat} {w2 : World}
    (hown : w2.ownsRow B tb 1 (.slice A (tk.length + 1) c) (tk.length + 1) (vs ++ [sv])) (hg : (w.alloc o).grownBy w2 TV.ownBlock) (hz : (Value.slice A (tk.length + 1) c).ownBlock = TV.ownBlock ∨ (Value.slice A (tk.length + 1) c).ownBlock = some (w.heap.size + 1)) :
    Tk w2 tb B (.slice A (tk.length + 1) c) (tk ++ [st]) (vs ++ [sv]) := by
  have hf : Fr (fun i => TV.ownBlock = some i) w w2 := ((Fr.refl _ w).alloc o).grown hg (fun _ e => .inl e)
  have hne : ∀ i, i < w.heap.size → TV.ownBlock ≠ some i → (Value.slice A (tk.length + 1) c).ownBlock ≠ some i := fun i hi hn e => by
    rcases hz with hz | hz
    · exact hn (hz ▸ e)
    · rw [hz] at e
      have : w.heap.size + 1 = i := Option.some.inj e
      omega
  refine ⟨by rw [List.length_append]; exact hown, SlsIs.append ?_ (SlsIs.one ?_)⟩
  · exact (h.els.mono (T := fun i => TV.ownBlock ≠ some i ∧ i < w.heap.size) (fun i hi k' => ⟨k', hi⟩)).fr hf (fun i k' e => k'.1 e) |>.mono (fun i _ k' => hne i k'.2 k'.1)
  · exact (hs.mono (T := fun i => TV.ownBlock ≠ some i ∧ i < w.heap.size) (fun i hi k' => ⟨k', hi⟩)).fr hf (fun i k' e => k'.1 e) |>.mono (fun i _ k' => hne i k'.2 k'.1)
theorem Tk.below (h : Tk w tb B TV tk vs) {o : Obj} {w2 : World} (hg : (w.alloc o).grownBy w2 TV.ownBlock) (hB : B ≤ w.heap.size) : Below B w w2 :=
  (((Fr.refl (fun i => TV.ownBlock = some i) w).alloc o).grown hg (fun _ e => .inl e)).below (fun i e => (own_lt h.own i e).1) hB
theorem Tk.shape (h : Tk w tb B TV tk vs) : ∃ A c, TV = .slice A tk.length c := by
  obtain ⟨hl, ho⟩ := h.own
  rcases ho with ⟨he, h0⟩ | ⟨g, cap, cur, he, _⟩
  · exact ⟨none, 0, by rw [he, h0]⟩
  · exact ⟨_, _, he⟩
theorem Tk.rds {A : Option Addr} {n c : Nat} (h : Tk w tb B (.slice A n c) tk vs) : RdS w (fun _ => True) A n c tk := by
  obtain ⟨A', c', e⟩ := h.shape
  cases e
  exact ⟨vs, (own_row h.own).mono (fun _ _ _ => trivial), h.els.mono (fun _ _ _ => trivial)⟩
end
end Go.Pl
namespace Go.Proofs.YthoaenpbmmjokaaDoor
open Go.RowKit Go.Pl
/-- What Follow returns. -/
def FolPost (w : World) (R : Option (List UInt8 × List (List UInt8))) (e : Ending) (w' : World) : Prop :=
  Below w.heap.size w w' ∧ match R with
  | none => e = .returned (.tuple #[.slice none 0 0, .slice none 0 0, .bool false])
  | some (d, tk) => ∃ A m c B k e', e = .returned (.tuple #[.slice A m c, .slice B k e', .bool true]) ∧ Rd w' (fun _ => True) A m c d ∧ RdS w' (fun _ => True) B k e' tk
set_option maxRecDepth 100000 in
set_option maxHeartbeats 2000000 in
theorem follow_any (w : World) {x : Ob.It} {A B : Option Addr} {n c m d : Nat} (hA : Rd w (fun _ => True) A n c x.content) (hB : RdS w (fun _ => True) B m d x.path) (hk : x.key.length ≤ 100000) (hc : x.content.length ≤ 1000000) (hm : x.path.length ≤ 1000) (hp : ∀ p ∈ x.path, p.length ≤ 1000000) :
    Calls Tryd.prog 18 #[.agg #[.string ⟨x.key.toArray⟩, .bool x.present, .slice A n c, .slice B m d]] w (FolPost w (Ob.followP x)) := by
  obtain ⟨w1, hw1⟩ : ∃ v, w.alloc (.cells #[.string ⟨x.key.toArray⟩, .bool x.present, .slice A n c, .slice B m d] 26) = v := ⟨_, rfl⟩
  have hG1 : Blk w1 w.heap.size 26 #[.string ⟨x.key.toArray⟩, .bool x.present, .slice A n c, .slice B m d] := by rw [← hw1]; exact Blk.new' rfl
  have hb1 : Below w.heap.size w w1 := by rw [← hw1]; exact (Below.refl _ _).alloc (Nat.le_refl _) _
  have hf1 : Fr (fun _ => False) w w1 := Fr.of_below hb1
  have hsz : (⟨x.key.toArray⟩ : ByteArray).size = x.key.length := by simp [ByteArray.size]
  have hA1 := Lib.hid (hA.fr hf1 (fun _ _ h => h))
  have hB1 := Lib.hid (hB.fr hf1 (fun _ _ h => h))
  have hnl : Hid (n = x.content.length) := hA.len
  have hml : Hid (m = x.path.length) := hB.len
  have hb1d := Lib.hid hb1
  have hw1d := Lib.hid hw1
  have hGd := Lib.hid hG1
  have g0 := (hG1.cell 0).trans rfl
  have g1 := (hG1.cell 1).trans rfl
  have g2 := (hG1.cell 2).trans rfl
  have g3 := (hG1.cell 3).trans rfl
  have hkd := Lib.hid hk
  have hcd := Lib.hid hc
  have hmd := Lib.hid hm
  have hpd := Lib.hid hp
  clear hA hB hk hc hm hp hw1 hG1 hb1 hf1
  go_enter Tryd.func18, Tryd.ntmps18
  go_upto_region 1 with fail
  rw [hw1d.out]
  obtain ⟨G, hG⟩ : ∃ G, w.heap.size = G := ⟨_, rfl⟩
  have hGG := Lib.hid hG
  rw [hG] at g0 g1 g2 g3 hGd ⊢
  clear hG
  by_cases hkl : x.key.length ≤ 65536
  · have hkI : decide (65536 < x.key.length) = false := by simp; omega
    have hkJ : decide (65536 < (x.key.length : Int)) = false := by simp; omega
    have hkld := Lib.hid hkl
    clear hkl
    have hGlt : Hid (G < w1.heap.size) := hGd.out.lt
    go_upto_region 6 with fail
    obtain ⟨w2, hw2⟩ : ∃ v, w1.alloc (.cells #[] 23) = v := ⟨_, rfl⟩
    have hs2 : w2.heap.size = w1.heap.size + 1 := by rw [← hw2]; exact Array.size_push _
    have ow2 : w2.ownsRow w1.heap.size 23 1 (.slice (some ⟨w1.heap.size, 0, none⟩) 0 0) 0 [] := by rw [← hw2]; exact made0_ w1 _ 1 _ (Nat.le_refl _)
    have hb2 : Below w1.heap.size w1 w2 := by rw [← hw2]; exact (Below.refl _ _).alloc (Nat.le_refl _) _
    rw [hw2, ← hs2]
    obtain ⟨w3, hw3⟩ : ∃ v, w2.alloc (.cells #[] 5) = v := ⟨_, rfl⟩
    have hb23 : Below w2.heap.size w2 w3 := by rw [← hw3]; exact (Below.refl _ _).alloc (Nat.le_refl _) _
    have tk3 : Hid (Tk w3 23 w1.heap.size (.slice (some ⟨w1.heap.size, 0, none⟩) 0 0) [] []) := (Tk.mk (tk := []) (vs := []) ow2 rfl).up hb23
    have b13 : Hid (Below w1.heap.size w1 w3) := hb2.trans (hb23.mono hb2.size)
    rw [hw3]
    obtain ⟨S0, hS0⟩ : ∃ S0, w2.heap.size = S0 := ⟨_, rfl⟩
    rw [hS0]
    clear hw2 hw3 hb2 hb23 hs2 ow2 hS0 g0 g1 g2 g3
    have kG3 : Hid (Blk w3 G 26 #[.string ⟨x.key.toArray⟩, .bool x.present, .slice A n c, .slice B m d]) := hGd.out.below b13.out hGlt.out
    have g0 := (kG3.out.cell 0).trans rfl
    have g1 := (kG3.out.cell 1).trans rfl
    have g2 := (kG3.out.cell 2).trans rfl
    have g3 := (kG3.out.cell 3).trans rfl
    have hA3 : Hid (Rd w3 (fun i => i < w1.heap.size) A n c x.content) := (hA1.out.mono (T := fun i => i < w1.heap.size) (fun i hi _ => hi)).fr (Fr.of_below (F := fun _ => False) b13.out) (fun _ _ h => h)
    have hB3 : Hid (RdS w3 (fun i => i < w1.heap.size) B m d x.path) := (hB1.out.mono (T := fun i => i < w1.heap.size) (fun i hi _ => hi)).fr (Fr.of_below (F := fun _ => False) b13.out) (fun _ _ h => h)
    have hb3d : Hid (Below w.heap.size w w3) := hb1d.out.trans (b13.out.mono hb1d.out.size)
    by_cases hpr : x.present = true
    · have hS : Hid (Ob.startP x = some (Ob.leafH x.key x.content, [x.content, Ob.leafB x.key (Sha.sha x.content)], x.path)) := by show _ = _; unfold Ob.startP; rw [if_pos hpr]
      rw [hpr] at g1
      go_upto_region 7 with fail
      have ow := own_alc tk3.out.own (.cells #[.slice A n c] 23)
      have ro := Row.new w3 23 #[.slice A n c] (sz := 1) (n := 1) _ rfl rfl (by decide)
      have on : ∀ u ∈ #[Value.slice A n c].toList, u.oneCell' = true := by intro u hu; simp at hu; rw [hu]; rfl
      have hbs : w1.heap.size ≤ (w3.alloc (.cells #[.slice A n c] 23)).heap.size := by have := b13.out.size; simp; omega
      go_wp2_with (at_builtin; refine wpl_app rfl (.tmp 25) (.tmp 28) 24 rfl w1.heap.size 23 _ 1 24 Tryd.underlying24 infoBytes rfl (by decide) (by decide) _ rfl 0 [] ow _ _ 1 1 rfl _ ro on (by omega) hbs 1 rfl ?hp1)
      case hp1 =>
        intro TA tc w4 o4 g4 z4
        have hTk4 : Hid (Tk w4 23 w1.heap.size (.slice TA 1 tc) [x.content] [.slice A n c]) := tk3.out.push (sv := .slice A n c) (st := x.content) ⟨_, _, _, rfl, hA3.out.mono (fun i _ h e => by have := (own_lt tk3.out.own i e).1; omega)⟩ o4 g4 z4
        have b4 : Hid (Below w1.heap.size w3 w4) := tk3.out.below g4 b13.out.size
        have kG4 := kG3.out.below b4.out hGlt.out
        have l4 : Hid (G < w4.heap.size) := kG4.lt
        have hA4 : Hid (Rd w4 (fun i => i < w1.heap.size) A n c x.content) := by
          have hf : Fr (fun i => w1.heap.size ≤ i) w3 w4 := ⟨b4.out.os, b4.out.tape, b4.out.output, b4.out.size, fun k _ h => b4.out.block k (by omega)⟩
          exact hA3.out.fr hf (fun i h1 h2 => by omega)
        have u0 : ∀ w', Ab w4.drew w' → w'.cell? ⟨G, 0, none⟩ = some (.string ⟨x.key.toArray⟩) := fun w' h => (Below.cell h (p := ⟨G, 0, none⟩) l4.out).trans ((kG4.cell 0).trans rfl)
        have u2 : ∀ w', Ab w4.drew w' → w'.cell? ⟨G, 2, none⟩ = some (.slice A n c) := fun w' h => (Below.cell h (p := ⟨G, 2, none⟩) l4.out).trans ((kG4.cell 2).trans rfl)
        clear o4 g4 z4 ow ro on hbs kG4 g0 g1 g2 g3
        go_upto_region 8 with fail
        refine wp_region_plan Ab Ab.refl Ab.trans [([0, 1, 2, 3], 4), ([], 5)] [6] (by kernel_rfl) (by kernel_rfl) (fun _ _ _ _ _ h => h) ?_
        simp only [wpPlan, ordPick, Option.toList_some, List.cons_append, List.nil_append, List.getElem?_cons_succ, List.getElem?_cons_zero]
        iterate 1 (go_big_quiet_step (exact fun _ => rfl))
        refine wpq_load_one rfl 9 (.tmp 30) rfl ⟨G, 0, none⟩ rfl _ u0 _ Tryd.underlying9 rfl ?_
        simp only [Act.put, List.setIfInBounds_toArray, List.set_cons_succ, List.set_cons_zero]
        iterate 1 (go_big_quiet_step (exact fun _ => rfl))
        refine wpq_load_one rfl 23 (.tmp 32) rfl ⟨G, 2, none⟩ rfl _ u2 _ Tryd.underlying23 rfl ?_
        simp only [Act.put, List.setIfInBounds_toArray, List.set_cons_succ, List.set_cons_zero]
        refine wpQuiet_nil ?_
        clear u0 u2
        go_wp2_with fail
        refine (refsums_any w4.drew ((hA4.out.ab (ab_drew w4)).mono (fun _ _ _ => trivial)) (by have := hcd.out; omega)).mono ?_
        rintro e w5 ⟨A5, n5, c5, rfl, hr5, hb5⟩
        have r5 := Lib.hid (hr5.mono (T := fun _ => True) (fun _ _ _ => trivial))
        have ab5 : Hid (Ab w4 w5) := Ab.trans _ _ _ (ab_drew w4) hb5
        clear hr5
        go_wp2_with fail
        refine And.intro hb5 ?_
        clear hb5
        simp only
        refine wpQuiet_nil ?_
        go_wp2_with fail
        refine (refleafd_any w5 x.key (by have := hkd.out; omega) r5.out (by rw [Sha.length_sha]; decide)).mono ?_
        rintro e wq ⟨A7, n7, c7, rfl, hr7, hb7⟩
        have abq : Hid (Ab w4 wq) := Ab.trans _ _ _ ab5.out hb7
        have ownlt : ∀ i, (Value.slice TA 1 tc).ownBlock = some i → i < w5.heap.size := fun i e => Nat.lt_of_lt_of_le (own_lt hTk4.out.own i e).2 ab5.out.size
        have rbq : Hid (Rd wq (fun i => (Value.slice TA 1 tc).ownBlock ≠ some i) A7 n7 c7 (Ob.leafB x.key (Sha.sha x.content))) := hr7.mono (fun i _ h e => by have := ownlt i e; omega)
        have hTk0 : Hid (Tk wq 23 w1.heap.size (.slice TA 1 tc) [x.content] [.slice A n c]) := hTk4.out.up abq.out
        have hbq : Hid (Below w1.heap.size w3 wq) := b4.out.trans (abq.out.mono (by have := b4.out.size; have := b13.out.size; omega))
        have ab57 : Hid (Ab w5 wq) := hb7
        clear hr7 hb7 ownlt
        go_wp2_with fail
        refine And.intro ab57.out ?_
        simp only
        iterate 1 (go_big_quiet_step (exact fun _ => rfl))
        refine wpQuiet_nil ?_
        go_upto_region 21 with fail
        obtain ⟨bB, hbB⟩ : ∃ q, Ob.leafB x.key (Sha.sha x.content) = q := ⟨_, rfl⟩
        have hS' : Hid (Ob.startP x = some (Sha.sha bB, [x.content] ++ [bB], x.path)) := by show _ = _; rw [hS.out, ← hbB]; rfl
        have hbl : Hid (bB.length ≤ 70368744177664) := by show _ ≤ _; rw [← hbB]; simp [Ob.leafB, Ob.num_len, Sha.length_sha]; have := hkd.out; omega
        rw [hbB] at rbq
        have hTk := hTk0
        have hS := hS'
        obtain ⟨SB, hSB⟩ : ∃ q, B = q := ⟨_, rfl⟩
        obtain ⟨k, hkk⟩ : ∃ q, m = q := ⟨_, rfl⟩
        obtain ⟨se, hse⟩ : ∃ q, d = q := ⟨_, rfl⟩
        obtain ⟨st, hstt⟩ : ∃ q, x.path = q := ⟨_, rfl⟩
        rw [hstt] at hS
        have hstq : Hid (RdS w3 (fun i => i < w1.heap.size) SB k se st) := by show RdS _ _ _ _ _ _; rw [← hSB, ← hkk, ← hse, ← hstt]; exact hB3.out
        rw [hSB, hkk, hse]
        clear hbB hS' hTk0 hstt hSB hkk hse
        have ow := own_alc hTk.out.own (.cells #[.slice A7 n7 c7] 23)
        have ro := Row.new wq 23 #[.slice A7 n7 c7] (sz := 1) (n := 1) _ rfl rfl (by decide)
        have on : ∀ u ∈ #[Value.slice A7 n7 c7].toList, u.oneCell' = true := by intro u hu; simp at hu; rw [hu]; rfl
        have hbs : w1.heap.size ≤ (wq.alloc (.cells #[.slice A7 n7 c7] 23)).heap.size := by have := hbq.out.size; have := b13.out.size; simp; omega
        go_wp2_with (at_builtin; refine wpl_app rfl (.tmp 88) (.tmp 90) 24 rfl w1.heap.size 23 _ 1 24 Tryd.underlying24 infoBytes rfl (by decide) (by decide) _ rfl 1 [Value.slice A n c] ow _ _ 1 1 rfl _ ro on (by omega) hbs 2 rfl ?hr1)
        case hr1 =>
          intro TA5 tc5 w5 o5 g5 z5
          have tk5 : Hid (Tk w5 23 w1.heap.size (.slice TA5 2 tc5) ([x.content] ++ [bB]) ([Value.slice A n c] ++ [.slice A7 n7 c7])) := hTk.out.push ⟨_, _, _, rfl, rbq.out⟩ o5 g5 z5
          have b5 : Hid (Below w1.heap.size w3 w5) := hbq.out.trans (hTk.out.below g5 (by have := hbq.out.size; have := b13.out.size; omega))
          have rb5 : Hid (Rd w5 (fun _ => True) A7 n7 c7 bB) := (rbq.out.fr (((Fr.refl (fun i => (Value.slice TA 1 tc).ownBlock = some i) wq).alloc _).grown g5 (fun _ e => .inl e)) (fun i h e => h e)).mono (fun _ _ _ => trivial)
          clear o5 g5 z5 ow ro on hbs
          go_wp2_with fail
          refine (refsums_any w5 rb5.out hbl.out).mono ?_
          rintro e w6 ⟨A8, n8, c8, rfl, hr8, hb8⟩
          have tk6 : Hid (Tk w6 23 w1.heap.size (.slice TA5 2 tc5) ([x.content] ++ [bB]) ([Value.slice A n c] ++ [.slice A7 n7 c7])) := tk5.out.up hb8
          have b6 : Hid (Below w1.heap.size w3 w6) := b5.out.trans (hb8.mono (by have := b5.out.size; have := b13.out.size; omega))
          have r8d := Lib.hid (hr8.mono (T := fun _ => True) (fun _ _ _ => trivial))
          have hkst : Hid (k = st.length) := hstq.out.len
          have hFol : Hid (Ob.followP x = Ob.climb x.key st.reverse 4294967296 (Sha.sha bB) ([x.content] ++ [bB])) := by show _ = _; unfold Ob.followP; rw [if_pos hkld.out, hS.out]
          have hk1000 : Hid (k ≤ 1000) := by show _ ≤ _; have := (Ob.startP_facts hS.out).2.1; have := hmd.out; have := hkst.out; omega
          have hkb : k ≤ 1000 := hk1000.out
          have hstl : Hid (∀ s ∈ st, s.length ≤ 1000000) := fun s h => hpd.out s ((Ob.startP_facts hS.out).2.2 s h)
          clear hr8 hb8
          go_wp2_with fail
          go_loopw [6, 10, 11, 12] (fun t6 t10 t11 t12 wr => ∃ (j ab : Nat) (dg : List UInt8) (tk : List (List UInt8)) (vs : List Value) (TA' : Option Addr) (tc' : Nat) (A' : Option Addr) (n' c' : Nat), j ≤ k ∧ t12 = .int .i64 ((j : Int) - 1) ∧ ((t11 = .int .i64 (-1) ∧ ab = 4294967296) ∨ (t11 = .int .i64 ab ∧ ab < 4294967296)) ∧ dg.length = 32 ∧ t10 = .slice A' n' c' ∧ Rd wr (fun _ => True) A' n' c' dg ∧
            t6 = .slice TA' tk.length tc' ∧ Tk wr 23 w1.heap.size (.slice TA' tk.length tc') tk vs ∧ tk.length + j ≤ 2 + k ∧ Ob.climb x.key (st.take j).reverse ab dg tk = Ob.climb x.key st.reverse 4294967296 (Sha.sha bB) ([x.content] ++ [bB]) ∧ Below w1.heap.size w3 wr) (fun _ _ _ t12 _ => (intOf t12 + 1).toNat)
          case atStart =>
            have hlen : ([x.content] ++ [bB]).length = 2 := rfl
            exact ⟨k, 4294967296, Sha.sha bB, [x.content] ++ [bB], _, TA5, tc5, A8, n8, c8, Nat.le_refl _, rfl, .inl ⟨rfl, rfl⟩, Sha.length_sha _, rfl, r8d.out, by rw [hlen], by rw [hlen]; exact tk6.out, by rw [hlen]; omega, by rw [hkst.out, List.take_length], b6.out⟩
          case round =>
            obtain ⟨j, ab, dg, tk, vs, TA', tc', A', n', c', hj, rfl, hab, hdg, rfl, hdr, rfl, hTr, htk, hcl, hwr⟩ := hrel
            have hjd := Lib.hid hj
            have hdgd := Lib.hid hdg
            have hdrd := Lib.hid hdr
            have hTrd := Lib.hid hTr
            have htkd := Lib.hid htk
            have hcld := Lib.hid hcl
            have hwrd := Lib.hid hwr
            have kGr := kG3.out.below hwr hGlt.out
            have g0 := (kGr.cell 0).trans rfl
            clear hdg hdr hTr htk hcl hwr kGr
            cases j with
            | zero =>
              have hz : ((0 : Nat) : Int) - 1 = -1 := rfl
              rw [hz]
              have hF : Hid (Ob.followP x = some (dg, tk)) := by show _ = _; rw [hFol.out, ← hcld.out]; rfl
              clear hz g0 hj hab
              go_wp2_with fail
              go_returns
              rw [hF.out]
              exact ⟨hb3d.out.trans (hwrd.out.mono hb1d.out.size), _, _, _, _, _, _, rfl, hdrd.out, hTrd.out.rds⟩
            | succ j =>
              have hz : ((j + 1 : Nat) : Int) - 1 = (j : Int) := by omega
              rw [hz]
              have hjk : j < k := by omega
              have hjkI : (j : Int) < (k : Int) := by omega
              obtain ⟨s, hs⟩ : ∃ s, st[j]? = some s := ⟨_, List.getElem?_eq_getElem (by have := hkst.out; omega)⟩
              obtain ⟨b6', o6, s6, hBe, hl6, hbl6, ⟨A6, n6, c6, rfl, r6⟩, d6⟩ := hstq.out.get hs
              subst hBe
              have e6 := (hwrd.out.cell (p := ⟨b6', o6 + j, none⟩) hl6).trans d6
              have hn6 : Hid (n6 = s.length) := r6.len
              have hlc6 : Hid (n6 ≤ c6 ∧ c6 ≤ maxLen) := ⟨r6.le, r6.max⟩
              have hstep : Hid (Ob.climb x.key st.reverse 4294967296 (Sha.sha bB) ([x.content] ++ [bB]) = if s.length = 36 ∧ Ob.val4 s < ab then Ob.climb x.key (st.take j).reverse (Ob.val4 s) (Sha.sha (Ob.stepB x.key s dg)) (tk ++ [Ob.stepB x.key s dg]) else none) := by
                show _ = _
                rw [← hcld.out, List.take_succ_eq_append_getElem (by have := hkst.out; omega)]
                have hse : st[j]'(by have := hkst.out; omega) = s := by
                  have := List.getElem?_eq_some_iff.1 hs
                  exact this.2
                rw [hse, List.reverse_append]
                rfl
              clear hz hs d6 hj
              by_cases h36 : n6 = 36
              · have h1 : decide (n6 = 36) = true := by simpa using h36
                have h2 : ((n6 : Int) != 36) = false := by rw [h36]; rfl
                have h3 : ((n6 : Int) == 36) = true := by rw [h36]; rfl
                obtain ⟨b7, o7, hA6, hl7, hbl7, hc7⟩ := r6.at_ (by omega)
                subst hA6
                have h36d := Lib.hid h36
                have h36n : 36 ≤ n6 := by omega
                have r6d := Lib.hid r6
                have b7q : ∀ q, q < 4 → ∀ w', Ab wr.drew w' → w'.cell? ⟨b7, o7 + q, none⟩ = some (.int .u8 ((s.getD q 0).toNat : Int)) := fun q hq w' h => (Below.cell h (p := ⟨b7, o7 + q, none⟩) (Nat.lt_of_lt_of_le hbl7 hwrd.out.size)).trans ((hwrd.out.cell (p := ⟨b7, o7 + q, none⟩) hl7).trans (hc7 q (by omega)))
                have c0 := b7q 0 (by omega)
                have c1 := b7q 1 (by omega)
                have c2 := b7q 2 (by omega)
                have c3 := b7q 3 (by omega)
                have hv0 := (s.getD 0 0).toNat_lt
                have hv1 := (s.getD 1 0).toNat_lt
                have hv2 := (s.getD 2 0).toNat_lt
                have hv3 := (s.getD 3 0).toNat_lt
                have hZ0 : Hid (Ob.val4 s = (s.getD 0 0).toNat * 16777216 + (s.getD 1 0).toNat * 65536 + (s.getD 2 0).toNat * 256 + (s.getD 3 0).toNat) := rfl
                rw [Nat.add_zero] at c0
                generalize (s.getD 0 0).toNat = V0 at c0 hv0 hZ0
                generalize (s.getD 1 0).toNat = V1 at c1 hv1 hZ0
                generalize (s.getD 2 0).toNat = V2 at c2 hv2 hZ0
                generalize (s.getD 3 0).toNat = V3 at c3 hv3 hZ0
                clear h36 hc7 r6 b7q
                go_upto_region 30 with fail
                refine wp_region_plan Ab Ab.refl Ab.trans [] [0, 1, 2, 3, 4, 5, 6, 7, 8, 9, 10, 11, 12, 13, 14, 15, 16, 17, 18, 19, 20, 21, 22] (by kernel_rfl) (by kernel_rfl) (fun _ _ _ _ _ h => h) ?_
                simp only [wpPlan, ordPick, Option.toList_some, List.cons_append, List.nil_append, List.getElem?_cons_succ, List.getElem?_cons_zero]
                iterate 2 (go_big_quiet_step (exact fun _ => rfl))
                refine wpq_load_one rfl 5 (.tmp 109) rfl ⟨b7, o7, none⟩ rfl _ c0 _ Tryd.underlying5 rfl ?_
                simp only [Act.put, List.setIfInBounds_toArray, List.set_cons_succ, List.set_cons_zero]
                iterate 4 (go_big_quiet_step (exact fun _ => rfl))
                refine wpq_load_one rfl 5 (.tmp 114) rfl ⟨b7, o7 + 1, none⟩ rfl _ c1 _ Tryd.underlying5 rfl ?_
                simp only [Act.put, List.setIfInBounds_toArray, List.set_cons_succ, List.set_cons_zero]
                iterate 5 (go_big_quiet_step (exact fun _ => rfl))
                refine wpq_load_one rfl 5 (.tmp 120) rfl ⟨b7, o7 + 2, none⟩ rfl _ c2 _ Tryd.underlying5 rfl ?_
                simp only [Act.put, List.setIfInBounds_toArray, List.set_cons_succ, List.set_cons_zero]
                iterate 5 (go_big_quiet_step (exact fun _ => rfl))
                refine wpq_load_one rfl 5 (.tmp 126) rfl ⟨b7, o7 + 3, none⟩ rfl _ c3 _ Tryd.underlying5 rfl ?_
                simp only [Act.put, List.setIfInBounds_toArray, List.set_cons_succ, List.set_cons_zero]
                iterate 3 (go_big_quiet_step (exact fun _ => rfl))
                refine wpQuiet_nil ?_
                obtain ⟨Z, hZ⟩ : ∃ Z, Ob.val4 s = Z := ⟨_, rfl⟩
                rw [show (V0 : Int) * 16777216 + (V1 : Int) * 65536 + (V2 : Int) * 256 + (V3 : Int) = (Z : Int) by have := hZ0.out; omega]
                have hZlt : Z < 4294967296 := by rw [← hZ]; exact Ob.val4_lt s
                rw [hZ] at hstep
                have hZd := Lib.hid hZ
                have bd : Hid (Ab wr wr.drew) := ab_drew wr
                have hTkN : Hid (Tk wr.drew 23 w1.heap.size (.slice TA' tk.length tc') tk vs) := hTrd.out.up bd.out
                have hdN : Hid (Rd wr.drew (fun _ => True) A' n' c' dg) := hdrd.out.ab bd.out
                have hbN : Hid (Below w1.heap.size w3 wr.drew) := hwrd.out.trans (Below.mono bd.out (by have := hwrd.out.size; have := b13.out.size; omega))
                have hc4 : ¬ c6 = 4 := by have := hlc6.out; omega
                have hc4I : ¬ (c6 : Int) = 4 := by omega
                have rD : Hid (Rd wr.drew (fun _ => True) (some ⟨b7, o7 + 4, none⟩) (n6 - 4) (c6 - 4) (s.drop 4)) := by
                  have hf : Fr (fun i => w1.heap.size ≤ i) w3 wr := ⟨hwrd.out.os, hwrd.out.tape, hwrd.out.output, hwrd.out.size, fun k _ h => hwrd.out.block k (by omega)⟩
                  have h := (((r6d.out.fr hf (fun i h1 h2 => by omega)).mono (T := fun _ => True) (fun _ _ _ => trivial)).ab bd.out).from_ (k := 4) (by omega)
                  rw [if_neg hc4, Option.map_some, add_none] at h
                  exact h
                have g0N : wr.drew.cell? ⟨G, 0, none⟩ = some (.string ⟨x.key.toArray⟩) := g0
                have hsl : Hid ((s.drop 4).length ≤ 1000000) := by show _ ≤ _; rw [List.length_drop]; have := hn6.out; have := h36d.out; omega
                have hdl : Hid (dg.length ≤ 1000000) := by show _ ≤ _; have := hdgd.out; omega
                clear hZ c0 c1 c2 c3 hv0 hv1 hv2 hv3 hZ0 g0 e6 h1 h2 h3
                generalize wr.drew = w4 at bd hTkN hdN hbN rD g0N ⊢
                rcases hab with ⟨rfl, rfl⟩ | ⟨rfl, habl⟩
                · have hltd : Hid (Z < 4294967296) := hZlt
                  go_wp2_with fail
                  refine (refbit_any w4 x.key Z (by have := hkd.out; omega) (by omega)).mono ?_
                  rintro e w4' ⟨rfl, rfl⟩
                  by_cases hb0 : Ob.bitN x.key Z = 0
                  · have hb0I : ((Ob.bitN x.key Z : Nat) : Int) = 0 := by omega
                    have hsB : Hid (Ob.stepB x.key s dg = Ob.nodeB Z dg (s.drop 4)) := by show _ = _; unfold Ob.stepB; rw [hZd.out, if_pos hb0]
                    go_wp2_with fail
                    refine (refnoded_any w4 Z (by omega) hdN.out rD.out hdl.out hsl.out).mono ?_
                    rintro e w5 ⟨A8, n8, c8, rfl, hr8, hb8⟩
                    have hlt8 : ∀ i, (Value.slice TA' tk.length tc').ownBlock = some i → i < w4.heap.size := fun i e => (own_lt hTkN.out.own i e).2
                    have r8 : Hid (Rd w5 (fun i => (Value.slice TA' tk.length tc').ownBlock ≠ some i) A8 n8 c8 (Ob.nodeB Z dg (s.drop 4))) := hr8.mono (fun i _ h e => by have := hlt8 i e; omega)
                    have t8 := hTkN.out.up hb8
                    have b8 : Hid (Below w1.heap.size w3 w5) := hbN.out.trans (hb8.mono (by have := hbN.out.size; have := b13.out.size; omega))
                    have hNl : Hid ((Ob.nodeB Z dg (s.drop 4)).length ≤ 70368744177664) := by show _ ≤ _; simp [Ob.nodeB, Ob.num_len]; have := hdgd.out; have := hn6.out; have := h36d.out; omega
                    have ow8 := own_alc t8.own (.cells #[.slice A8 n8 c8] 23)
                    have ro8 := Row.new w5 23 #[.slice A8 n8 c8] (sz := 1) (n := 1) _ rfl rfl (by decide)
                    have on8 : ∀ u ∈ #[Value.slice A8 n8 c8].toList, u.oneCell' = true := by intro u hu; simp at hu; rw [hu]; rfl
                    have htk8 : tk.length ≤ 2000 := by have := htkd.out; have := hk1000.out; omega
                    have hbs8 : w1.heap.size ≤ (w5.alloc (.cells #[.slice A8 n8 c8] 23)).heap.size := by have := b8.out.size; have := b13.out.size; simp; omega
                    have t8d := Lib.hid t8
                    clear hr8 hb8 hlt8 t8
                    go_wp2_with (at_builtin; refine wpl_app rfl (.tmp 153) (.tmp 155) 24 rfl w1.heap.size 23 _ 1 24 Tryd.underlying24 infoBytes rfl (by decide) (by decide) _ rfl tk.length vs ow8 _ _ 1 1 rfl _ ro8 on8 (by omega) hbs8 (tk.length + 1) rfl ?hn)
                    case hn =>
                      intro TA9 tc9 w9 o9 g9 z9
                      have t9 : Hid (Tk w9 23 w1.heap.size (.slice TA9 (tk.length + 1) tc9) (tk ++ [Ob.nodeB Z dg (s.drop 4)]) (vs ++ [.slice A8 n8 c8])) := t8d.out.push ⟨_, _, _, rfl, r8.out⟩ o9 g9 z9
                      have b9 : Hid (Below w1.heap.size w3 w9) := b8.out.trans (t8d.out.below g9 (by have := b8.out.size; have := b13.out.size; omega))
                      have r9 : Hid (Rd w9 (fun _ => True) A8 n8 c8 (Ob.nodeB Z dg (s.drop 4))) := (r8.out.fr (((Fr.refl (fun i => (Value.slice TA' tk.length tc').ownBlock = some i) w5).alloc _).grown g9 (fun _ e => .inl e)) (fun i h e => h e)).mono (fun _ _ _ => trivial)
                      clear o9 g9 z9 ow8 ro8 on8 hbs8
                      go_wp2_with fail
                      refine (refsums_any w9 r9.out hNl.out).mono ?_
                      rintro e w10 ⟨Aa, na, ca, rfl, hra, hba⟩
                      have t10 : Hid (Tk w10 23 w1.heap.size (.slice TA9 (tk.length + 1) tc9) (tk ++ [Ob.nodeB Z dg (s.drop 4)]) (vs ++ [.slice A8 n8 c8])) := t9.out.up hba
                      have b10 : Hid (Below w1.heap.size w3 w10) := b9.out.trans (hba.mono (by have := b9.out.size; have := b13.out.size; omega))
                      have rad := Lib.hid (hra.mono (T := fun _ => True) (fun _ _ _ => trivial))
                      clear hra hba
                      go_wp2_with fail
                      go_roundw
                      case rel =>
                        have hlen : (tk ++ [Ob.nodeB Z dg (s.drop 4)]).length = tk.length + 1 := by simp
                        refine ⟨j, Z, Sha.sha (Ob.nodeB Z dg (s.drop 4)), tk ++ [Ob.nodeB Z dg (s.drop 4)], _, TA9, tc9, Aa, na, ca, by omega, rfl, .inr ⟨rfl, hZlt⟩, Sha.length_sha _, rfl, rad.out, by rw [hlen], by rw [hlen]; exact t10.out, by rw [hlen]; have := htkd.out; omega, ?_, b10.out⟩
                        rw [hstep.out, if_pos ⟨by have := hn6.out; have := h36d.out; omega, hltd.out⟩, hsB.out]
                      case measure => simp [intOf]
                  · have hb0I : ¬ ((Ob.bitN x.key Z : Nat) : Int) = 0 := by omega
                    have hsB : Hid (Ob.stepB x.key s dg = Ob.nodeB Z (s.drop 4) dg) := by show _ = _; unfold Ob.stepB; rw [hZd.out, if_neg hb0]
                    go_wp2_with fail
                    refine (refnoded_any w4 Z (by omega) rD.out hdN.out hsl.out hdl.out).mono ?_
                    rintro e w5 ⟨A8, n8, c8, rfl, hr8, hb8⟩
                    have hlt8 : ∀ i, (Value.slice TA' tk.length tc').ownBlock = some i → i < w4.heap.size := fun i e => (own_lt hTkN.out.own i e).2
                    have r8 : Hid (Rd w5 (fun i => (Value.slice TA' tk.length tc').ownBlock ≠ some i) A8 n8 c8 (Ob.nodeB Z (s.drop 4) dg)) := hr8.mono (fun i _ h e => by have := hlt8 i e; omega)
                    have t8 := hTkN.out.up hb8
                    have b8 : Hid (Below w1.heap.size w3 w5) := hbN.out.trans (hb8.mono (by have := hbN.out.size; have := b13.out.size; omega))
                    have hNl : Hid ((Ob.nodeB Z (s.drop 4) dg).length ≤ 70368744177664) := by show _ ≤ _; simp [Ob.nodeB, Ob.num_len]; have := hdgd.out; have := hn6.out; have := h36d.out; omega
                    have ow8 := own_alc t8.own (.cells #[.slice A8 n8 c8] 23)
                    have ro8 := Row.new w5 23 #[.slice A8 n8 c8] (sz := 1) (n := 1) _ rfl rfl (by decide)
                    have on8 : ∀ u ∈ #[Value.slice A8 n8 c8].toList, u.oneCell' = true := by intro u hu; simp at hu; rw [hu]; rfl
                    have htk8 : tk.length ≤ 2000 := by have := htkd.out; have := hk1000.out; omega
                    have hbs8 : w1.heap.size ≤ (w5.alloc (.cells #[.slice A8 n8 c8] 23)).heap.size := by have := b8.out.size; have := b13.out.size; simp; omega
                    have t8d := Lib.hid t8
                    clear hr8 hb8 hlt8 t8
                    go_wp2_with (at_builtin; refine wpl_app rfl (.tmp 153) (.tmp 155) 24 rfl w1.heap.size 23 _ 1 24 Tryd.underlying24 infoBytes rfl (by decide) (by decide) _ rfl tk.length vs ow8 _ _ 1 1 rfl _ ro8 on8 (by omega) hbs8 (tk.length + 1) rfl ?hn)
                    case hn =>
                      intro TA9 tc9 w9 o9 g9 z9
                      have t9 : Hid (Tk w9 23 w1.heap.size (.slice TA9 (tk.length + 1) tc9) (tk ++ [Ob.nodeB Z (s.drop 4) dg]) (vs ++ [.slice A8 n8 c8])) := t8d.out.push ⟨_, _, _, rfl, r8.out⟩ o9 g9 z9
                      have b9 : Hid (Below w1.heap.size w3 w9) := b8.out.trans (t8d.out.below g9 (by have := b8.out.size; have := b13.out.size; omega))
                      have r9 : Hid (Rd w9 (fun _ => True) A8 n8 c8 (Ob.nodeB Z (s.drop 4) dg)) := (r8.out.fr (((Fr.refl (fun i => (Value.slice TA' tk.length tc').ownBlock = some i) w5).alloc _).grown g9 (fun _ e => .inl e)) (fun i h e => h e)).mono (fun _ _ _ => trivial)
                      clear o9 g9 z9 ow8 ro8 on8 hbs8
                      go_wp2_with fail
                      refine (refsums_any w9 r9.out hNl.out).mono ?_
                      rintro e w10 ⟨Aa, na, ca, rfl, hra, hba⟩
                      have t10 : Hid (Tk w10 23 w1.heap.size (.slice TA9 (tk.length + 1) tc9) (tk ++ [Ob.nodeB Z (s.drop 4) dg]) (vs ++ [.slice A8 n8 c8])) := t9.out.up hba
                      have b10 : Hid (Below w1.heap.size w3 w10) := b9.out.trans (hba.mono (by have := b9.out.size; have := b13.out.size; omega))
                      have rad := Lib.hid (hra.mono (T := fun _ => True) (fun _ _ _ => trivial))
                      clear hra hba
                      go_wp2_with fail
                      go_roundw
                      case rel =>
                        have hlen : (tk ++ [Ob.nodeB Z (s.drop 4) dg]).length = tk.length + 1 := by simp
                        refine ⟨j, Z, Sha.sha (Ob.nodeB Z (s.drop 4) dg), tk ++ [Ob.nodeB Z (s.drop 4) dg], _, TA9, tc9, Aa, na, ca, by omega, rfl, .inr ⟨rfl, hZlt⟩, Sha.length_sha _, rfl, rad.out, by rw [hlen], by rw [hlen]; exact t10.out, by rw [hlen]; have := htkd.out; omega, ?_, b10.out⟩
                        rw [hstep.out, if_pos ⟨by have := hn6.out; have := h36d.out; omega, hltd.out⟩, hsB.out]
                      case measure => simp [intOf]
                · by_cases hlt : Z < ab
                  · have hltI : decide (ab ≤ Z) = false := by simp; omega
                    have hltJ : decide ((ab : Int) ≤ (Z : Int)) = false := by simp; omega
                    have h0I : decide ((0 : Int) ≤ (ab : Int)) = true := by simp
                    have hltd := Lib.hid hlt
                    clear hlt
                    go_wp2_with fail
                    refine (refbit_any w4 x.key Z (by have := hkd.out; omega) (by omega)).mono ?_
                    rintro e w4' ⟨rfl, rfl⟩
                    by_cases hb0 : Ob.bitN x.key Z = 0
                    · have hb0I : ((Ob.bitN x.key Z : Nat) : Int) = 0 := by omega
                      have hsB : Hid (Ob.stepB x.key s dg = Ob.nodeB Z dg (s.drop 4)) := by show _ = _; unfold Ob.stepB; rw [hZd.out, if_pos hb0]
                      go_wp2_with fail
                      refine (refnoded_any w4 Z (by omega) hdN.out rD.out hdl.out hsl.out).mono ?_
                      rintro e w5 ⟨A8, n8, c8, rfl, hr8, hb8⟩
                      have hlt8 : ∀ i, (Value.slice TA' tk.length tc').ownBlock = some i → i < w4.heap.size := fun i e => (own_lt hTkN.out.own i e).2
                      have r8 : Hid (Rd w5 (fun i => (Value.slice TA' tk.length tc').ownBlock ≠ some i) A8 n8 c8 (Ob.nodeB Z dg (s.drop 4))) := hr8.mono (fun i _ h e => by have := hlt8 i e; omega)
                      have t8 := hTkN.out.up hb8
                      have b8 : Hid (Below w1.heap.size w3 w5) := hbN.out.trans (hb8.mono (by have := hbN.out.size; have := b13.out.size; omega))
                      have hNl : Hid ((Ob.nodeB Z dg (s.drop 4)).length ≤ 70368744177664) := by show _ ≤ _; simp [Ob.nodeB, Ob.num_len]; have := hdgd.out; have := hn6.out; have := h36d.out; omega
                      have ow8 := own_alc t8.own (.cells #[.slice A8 n8 c8] 23)
                      have ro8 := Row.new w5 23 #[.slice A8 n8 c8] (sz := 1) (n := 1) _ rfl rfl (by decide)
                      have on8 : ∀ u ∈ #[Value.slice A8 n8 c8].toList, u.oneCell' = true := by intro u hu; simp at hu; rw [hu]; rfl
                      have htk8 : tk.length ≤ 2000 := by have := htkd.out; have := hk1000.out; omega
                      have hbs8 : w1.heap.size ≤ (w5.alloc (.cells #[.slice A8 n8 c8] 23)).heap.size := by have := b8.out.size; have := b13.out.size; simp; omega
                      have t8d := Lib.hid t8
                      clear hr8 hb8 hlt8 t8
                      go_wp2_with (at_builtin; refine wpl_app rfl (.tmp 153) (.tmp 155) 24 rfl w1.heap.size 23 _ 1 24 Tryd.underlying24 infoBytes rfl (by decide) (by decide) _ rfl tk.length vs ow8 _ _ 1 1 rfl _ ro8 on8 (by omega) hbs8 (tk.length + 1) rfl ?hn)
                      case hn =>
                        intro TA9 tc9 w9 o9 g9 z9
                        have t9 : Hid (Tk w9 23 w1.heap.size (.slice TA9 (tk.length + 1) tc9) (tk ++ [Ob.nodeB Z dg (s.drop 4)]) (vs ++ [.slice A8 n8 c8])) := t8d.out.push ⟨_, _, _, rfl, r8.out⟩ o9 g9 z9
                        have b9 : Hid (Below w1.heap.size w3 w9) := b8.out.trans (t8d.out.below g9 (by have := b8.out.size; have := b13.out.size; omega))
                        have r9 : Hid (Rd w9 (fun _ => True) A8 n8 c8 (Ob.nodeB Z dg (s.drop 4))) := (r8.out.fr (((Fr.refl (fun i => (Value.slice TA' tk.length tc').ownBlock = some i) w5).alloc _).grown g9 (fun _ e => .inl e)) (fun i h e => h e)).mono (fun _ _ _ => trivial)
                        clear o9 g9 z9 ow8 ro8 on8 hbs8
                        go_wp2_with fail
                        refine (refsums_any w9 r9.out hNl.out).mono ?_
                        rintro e w10 ⟨Aa, na, ca, rfl, hra, hba⟩
                        have t10 : Hid (Tk w10 23 w1.heap.size (.slice TA9 (tk.length + 1) tc9) (tk ++ [Ob.nodeB Z dg (s.drop 4)]) (vs ++ [.slice A8 n8 c8])) := t9.out.up hba
                        have b10 : Hid (Below w1.heap.size w3 w10) := b9.out.trans (hba.mono (by have := b9.out.size; have := b13.out.size; omega))
                        have rad := Lib.hid (hra.mono (T := fun _ => True) (fun _ _ _ => trivial))
                        clear hra hba
                        go_wp2_with fail
                        go_roundw
                        case rel =>
                          have hlen : (tk ++ [Ob.nodeB Z dg (s.drop 4)]).length = tk.length + 1 := by simp
                          refine ⟨j, Z, Sha.sha (Ob.nodeB Z dg (s.drop 4)), tk ++ [Ob.nodeB Z dg (s.drop 4)], _, TA9, tc9, Aa, na, ca, by omega, rfl, .inr ⟨rfl, hZlt⟩, Sha.length_sha _, rfl, rad.out, by rw [hlen], by rw [hlen]; exact t10.out, by rw [hlen]; have := htkd.out; omega, ?_, b10.out⟩
                          rw [hstep.out, if_pos ⟨by have := hn6.out; have := h36d.out; omega, hltd.out⟩, hsB.out]
                        case measure => simp [intOf]
                    · have hb0I : ¬ ((Ob.bitN x.key Z : Nat) : Int) = 0 := by omega
                      have hsB : Hid (Ob.stepB x.key s dg = Ob.nodeB Z (s.drop 4) dg) := by show _ = _; unfold Ob.stepB; rw [hZd.out, if_neg hb0]
                      go_wp2_with fail
                      refine (refnoded_any w4 Z (by omega) rD.out hdN.out hsl.out hdl.out).mono ?_
                      rintro e w5 ⟨A8, n8, c8, rfl, hr8, hb8⟩
                      have hlt8 : ∀ i, (Value.slice TA' tk.length tc').ownBlock = some i → i < w4.heap.size := fun i e => (own_lt hTkN.out.own i e).2
                      have r8 : Hid (Rd w5 (fun i => (Value.slice TA' tk.length tc').ownBlock ≠ some i) A8 n8 c8 (Ob.nodeB Z (s.drop 4) dg)) := hr8.mono (fun i _ h e => by have := hlt8 i e; omega)
                      have t8 := hTkN.out.up hb8
                      have b8 : Hid (Below w1.heap.size w3 w5) := hbN.out.trans (hb8.mono (by have := hbN.out.size; have := b13.out.size; omega))
                      have hNl : Hid ((Ob.nodeB Z (s.drop 4) dg).length ≤ 70368744177664) := by show _ ≤ _; simp [Ob.nodeB, Ob.num_len]; have := hdgd.out; have := hn6.out; have := h36d.out; omega
                      have ow8 := own_alc t8.own (.cells #[.slice A8 n8 c8] 23)
                      have ro8 := Row.new w5 23 #[.slice A8 n8 c8] (sz := 1) (n := 1) _ rfl rfl (by decide)
                      have on8 : ∀ u ∈ #[Value.slice A8 n8 c8].toList, u.oneCell' = true := by intro u hu; simp at hu; rw [hu]; rfl
                      have htk8 : tk.length ≤ 2000 := by have := htkd.out; have := hk1000.out; omega
                      have hbs8 : w1.heap.size ≤ (w5.alloc (.cells #[.slice A8 n8 c8] 23)).heap.size := by have := b8.out.size; have := b13.out.size; simp; omega
                      have t8d := Lib.hid t8
                      clear hr8 hb8 hlt8 t8
                      go_wp2_with (at_builtin; refine wpl_app rfl (.tmp 153) (.tmp 155) 24 rfl w1.heap.size 23 _ 1 24 Tryd.underlying24 infoBytes rfl (by decide) (by decide) _ rfl tk.length vs ow8 _ _ 1 1 rfl _ ro8 on8 (by omega) hbs8 (tk.length + 1) rfl ?hn)
                      case hn =>
                        intro TA9 tc9 w9 o9 g9 z9
                        have t9 : Hid (Tk w9 23 w1.heap.size (.slice TA9 (tk.length + 1) tc9) (tk ++ [Ob.nodeB Z (s.drop 4) dg]) (vs ++ [.slice A8 n8 c8])) := t8d.out.push ⟨_, _, _, rfl, r8.out⟩ o9 g9 z9
                        have b9 : Hid (Below w1.heap.size w3 w9) := b8.out.trans (t8d.out.below g9 (by have := b8.out.size; have := b13.out.size; omega))
                        have r9 : Hid (Rd w9 (fun _ => True) A8 n8 c8 (Ob.nodeB Z (s.drop 4) dg)) := (r8.out.fr (((Fr.refl (fun i => (Value.slice TA' tk.length tc').ownBlock = some i) w5).alloc _).grown g9 (fun _ e => .inl e)) (fun i h e => h e)).mono (fun _ _ _ => trivial)
                        clear o9 g9 z9 ow8 ro8 on8 hbs8
                        go_wp2_with fail
                        refine (refsums_any w9 r9.out hNl.out).mono ?_
                        rintro e w10 ⟨Aa, na, ca, rfl, hra, hba⟩
                        have t10 : Hid (Tk w10 23 w1.heap.size (.slice TA9 (tk.length + 1) tc9) (tk ++ [Ob.nodeB Z (s.drop 4) dg]) (vs ++ [.slice A8 n8 c8])) := t9.out.up hba
                        have b10 : Hid (Below w1.heap.size w3 w10) := b9.out.trans (hba.mono (by have := b9.out.size; have := b13.out.size; omega))
                        have rad := Lib.hid (hra.mono (T := fun _ => True) (fun _ _ _ => trivial))
                        clear hra hba
                        go_wp2_with fail
                        go_roundw
                        case rel =>
                          have hlen : (tk ++ [Ob.nodeB Z (s.drop 4) dg]).length = tk.length + 1 := by simp
                          refine ⟨j, Z, Sha.sha (Ob.nodeB Z (s.drop 4) dg), tk ++ [Ob.nodeB Z (s.drop 4) dg], _, TA9, tc9, Aa, na, ca, by omega, rfl, .inr ⟨rfl, hZlt⟩, Sha.length_sha _, rfl, rad.out, by rw [hlen], by rw [hlen]; exact t10.out, by rw [hlen]; have := htkd.out; omega, ?_, b10.out⟩
                          rw [hstep.out, if_pos ⟨by have := hn6.out; have := h36d.out; omega, hltd.out⟩, hsB.out]
                        case measure => simp [intOf]
                  · have hltI : decide (ab ≤ Z) = true := by simp; omega
                    have hltJ : decide ((ab : Int) ≤ (Z : Int)) = true := by simp; omega
                    have h0I : decide ((0 : Int) ≤ (ab : Int)) = true := by simp
                    have hF : Hid (Ob.followP x = none) := by show _ = _; rw [hFol.out, hstep.out, if_neg (fun h => hlt h.2)]
                    clear hlt
                    go_wp2_with fail
                    go_returns
                    rw [hF.out]
                    exact ⟨hb3d.out.trans (hbN.out.mono hb1d.out.size), rfl⟩
              · have h1 : decide (n6 = 36) = false := by simpa using h36
                have h2 : ((n6 : Int) != 36) = true := by simp; omega
                have h3 : ((n6 : Int) == 36) = false := by simp; omega
                have hF : Hid (Ob.followP x = none) := by show _ = _; rw [hFol.out, hstep.out, if_neg (fun h => h36 (by have := hn6.out; omega))]
                clear h36 hab
                go_wp2_with fail
                go_returns
                rw [hF.out]
                exact ⟨hb3d.out.trans (hwrd.out.mono hb1d.out.size), rfl⟩
    · have hpr' : x.present = false := by simpa using hpr
      rw [hpr'] at g1
      by_cases hn0 : n = 0
      · have hct : x.content = [] := List.eq_nil_of_length_eq_zero (by have := hnl.out; omega)
        have hnI : decide (n = 0) = true := by simpa using hn0
        have hnJ : ((n : Int) != 0) = false := by rw [hn0]; rfl
        have hnK : ((n : Int) == 0) = true := by rw [hn0]; rfl
        have hctd := Lib.hid hct
        have hprd := Lib.hid hpr
        clear hct hn0 hpr
        cases hgl : x.path.getLast? with
        | none =>
          have hpn : x.path = [] := by simpa using hgl
          have hS : Hid (Ob.startP x = some (Sha.sha [2], [[2]], [])) := by show _ = _; unfold Ob.startP; rw [if_neg hprd.out, if_pos hctd.out, hgl]
          have hF : Hid (Ob.followP x = some (Sha.sha [2], [[2]])) := by show _ = _; unfold Ob.followP; rw [if_pos hkld.out, hS.out]; rfl
          have hm0 : m = 0 := by have := hml.out; rw [hpn] at this; simpa using this
          subst hm0
          clear hgl hpn
          go_wp2_with fail
          obtain ⟨w4, hw4⟩ : ∃ v, w3.alloc (.cells #[.int .u8 2] 5) = v := ⟨_, rfl⟩
          have hX : Blk w4 w3.heap.size 5 #[.int .u8 2] := by rw [← hw4]; exact Blk.new' rfl
          have hb4 : Below w.heap.size w w4 := by rw [← hw4]; exact hb3d.out.alloc hb3d.out.size _
          rw [hw4]
          refine (refsums_any w4 (rd_one (x := 2) hX rfl) (by simp)).mono ?_
          rintro e w5 ⟨A2, n2, c2, rfl, hr5, hb5⟩
          have r5 := Lib.hid (hr5.mono (T := fun _ => True) (fun _ _ _ => trivial))
          have hb5d := Lib.hid (hb4.trans (hb5.mono hb4.size))
          clear hw4 hX hb4 hr5 hb5
          go_wp2_with fail
          go_returns
          rw [hF.out]
          have hf1 := (Fr.refl (fun _ => False) w5).alloc (.cells #[.int .u8 2] 5)
          have hs1 : (w5.alloc (.cells #[.int .u8 2] 5)).heap.size = w5.heap.size + 1 := Array.size_push _
          have hY := Row.new (w5.alloc (.cells #[.int .u8 2] 5)) 23 #[.slice (some ⟨w5.heap.size, 0, none⟩) 1 1] (sz := 1) (n := 1) _ rfl rfl (by decide)
          rw [hs1] at hY
          have hZ : Rd (w5.alloc (.cells #[.int .u8 2] 5)) (fun _ => True) (some ⟨w5.heap.size, 0, none⟩) 1 1 [2] := rd_one (x := 2) (Blk.new' rfl) rfl
          exact ⟨(hb5d.out.alloc hb5d.out.size _).alloc (by have := hb5d.out.size; omega) _, _, _, _, _, _, _, rfl, r5.out.fr (hf1.alloc _) (fun _ _ h => h), _, hY.mono (fun _ _ _ => trivial), SlsIs.one ⟨_, _, _, rfl, hZ.fr ((Fr.refl (fun _ => False) _).alloc _) (fun _ _ h => h)⟩⟩
        | some l =>
          have hm1 : 1 ≤ m := by
            have := hml.out
            cases hx : x.path with
            | nil => rw [hx] at hgl; simp at hgl
            | cons a b => rw [hx] at this; simp at this; omega
          have hm1000 : m ≤ 1000 := by have := hml.out; have := hmd.out; omega
          have hlast : x.path[m - 1]? = some l := by rw [List.getLast?_eq_getElem?] at hgl; rw [hml.out]; exact hgl
          obtain ⟨b3, o3, s3, hBe, hl3, hbl3, ⟨A4, n4, c4, rfl, r4⟩, d3⟩ := hB3.out.get hlast
          subst hBe
          have hll : Hid (n4 = l.length) := r4.len
          have hlc : Hid (n4 ≤ c4 ∧ c4 ≤ maxLen) := ⟨r4.le, r4.max⟩
          have hl6 : Hid (l.length ≤ 1000000) := hpd.out l (List.mem_of_getElem? hlast)
          have hn46 : n4 ≤ 1000000 := by have := hll.out; have := hl6.out; omega
          have hmI : decide (m = 0) = false := by simp; omega
          have hmJ : ((m : Int) == 0) = false := by simp; omega
          have hmw : IntKind.i64.wrap ((m : Int) - 1) = ((m - 1 : Nat) : Int) := by rw [IntKind.wrap_i64]; omega
          have hmL : m - 1 < m := by omega
          have hmM : ((m - 1 : Nat) : Int) < (m : Int) := by omega
          have r4d := Lib.hid r4
          have hgld := Lib.hid hgl
          have hmd5 : m - 1 ≤ d := by obtain ⟨vs, q1, _⟩ := hB3.out; have := q1.le; omega
          clear hgl hlast r4
          have hS : Hid (Ob.startP x = if 32 ≤ l.length ∧ l.length ≤ 65568 ∧ l.take (l.length - 32) ≠ x.key then
              some (Sha.sha (Ob.leafB (l.take (l.length - 32)) (l.drop (l.length - 32))), [Ob.leafB (l.take (l.length - 32)) (l.drop (l.length - 32))], x.path.dropLast)
            else none) := by show _ = _; unfold Ob.startP; rw [if_neg hprd.out, if_pos hctd.out, hgld.out]
          by_cases h32 : n4 < 32
          · have h1 : decide (n4 < 32) = true := by simpa using h32
            have h2 : decide ((n4 : Int) < 32) = true := by simp; omega
            have hF : Hid (Ob.followP x = none) := by show _ = _; unfold Ob.followP; rw [if_pos hkld.out, hS.out, if_neg (fun h => by have := hll.out; omega)]
            clear h32
            go_wp2_with fail
            go_returns
            rw [hF.out]
            exact ⟨hb3d.out, rfl⟩
          · by_cases h65 : n4 ≤ 65568
            · have h1 : decide (n4 < 32) = false := by simp; omega
              have h2 : decide ((n4 : Int) < 32) = false := by simp; omega
              have h3 : decide (65568 < n4) = false := by simp; omega
              have h4 : decide (65568 < (n4 : Int)) = false := by simp; omega
              have hnw : IntKind.i64.wrap ((n4 : Int) - 32) = ((n4 - 32 : Nat) : Int) := by rw [IntKind.wrap_i64]; omega
              have h32c : n4 - 32 ≤ c4 := by have := hlc.out; omega
              have h32n : n4 - 32 ≤ n4 := by omega
              have q1 : Bytes w3 w3.heap.size (.slice A4 (n4 - 32) c4) (l.take (n4 - 32)) := (r4d.out.to (k := n4 - 32) (by omega)).bytes (fun i hi _ => hi)
              by_cases hkx : l.take (n4 - 32) = x.key
              · have e1 := str_eq (a := l.take (n4 - 32)) (b := x.key) true ⟨fun _ => hkx, fun _ => rfl⟩
                have e2 : (l.take (n4 - 32) == x.key) = true := by simpa using hkx
                have hF : Hid (Ob.followP x = none) := by show _ = _; unfold Ob.followP; rw [if_pos hkld.out, hS.out, if_neg (fun h => h.2.2 (by rw [← hll.out]; exact hkx))]
                clear hkx
                go_wp2_with ((with_reducible refine wpl_string_w 23 9 5 (.tmp 68) rfl rfl ?_ ?_ ?_ _ ?_ _ q1 ?_); rfl; rfl; rfl; rfl)
                go_returns
                rw [hF.out]
                exact ⟨hb3d.out, rfl⟩
              · have e1 := str_eq (a := l.take (n4 - 32)) (b := x.key) false ⟨fun h => (by cases h), fun h => (hkx h).elim⟩
                have e2 : (l.take (n4 - 32) == x.key) = false := by simpa using hkx
                have hkxd := Lib.hid hkx
                clear hkx
                obtain ⟨b4, o4, hA4e, hl4, hbl4, -⟩ := r4d.out.at_ (by omega)
                subst hA4e
                have hck : ¬ c4 = n4 - 32 := by have := hlc.out; omega
                have hckI : ¬ (c4 : Int) = ((n4 - 32 : Nat) : Int) := by omega
                have r5d : Hid (Rd w3 (fun _ => True) (some ⟨b4, o4 + (n4 - 32), none⟩) (n4 - (n4 - 32)) (c4 - (n4 - 32)) (l.drop (n4 - 32))) := by
                  have h := (r4d.out.mono (T := fun _ => True) (fun _ _ _ => trivial)).from_ (k := n4 - 32) (by omega)
                  rw [if_neg hck, Option.map_some, add_none] at h
                  exact h
                have hkl2 : Hid ((l.take (n4 - 32)).length ≤ 1000000) := by show _ ≤ _; rw [List.length_take]; have := hl6.out; omega
                have hdl2 : Hid ((l.drop (n4 - 32)).length ≤ 1000000) := by show _ ≤ _; rw [List.length_drop]; have := hl6.out; omega
                go_wp2_with ((with_reducible refine wpl_string_w 23 9 5 (.tmp 68) rfl rfl ?_ ?_ ?_ _ ?_ _ q1 ?_); rfl; rfl; rfl; rfl)
                refine (refleafd_any w3 (l.take (n4 - 32)) hkl2.out r5d.out hdl2.out).mono ?_
                rintro e wq ⟨A7, n7, c7, rfl, hr7, hb7⟩
                have kGq := kG3.out.below hb7 kG3.out.lt
                have g3 := (kGq.cell 3).trans rfl
                have rbq : Hid (Rd wq (fun i => (Value.slice (some ⟨w1.heap.size, 0, none⟩) 0 0).ownBlock ≠ some i) A7 n7 c7 (Ob.leafB (l.take (n4 - 32)) (l.drop (n4 - 32)))) := hr7.mono (fun i _ h e => by have := (own_lt tk3.out.own i e).2; omega)
                have hTk : Hid (Tk wq 23 w1.heap.size (.slice (some ⟨w1.heap.size, 0, none⟩) 0 0) [] []) := tk3.out.up hb7
                have hbq : Hid (Below w1.heap.size w3 wq) := hb7.mono b13.out.size
                clear hr7 hb7 kGq g0 g1 g2 q1 e1 e2 d3
                go_upto_region 21 with fail
                obtain ⟨bB, hbB⟩ : ∃ q, Ob.leafB (l.take (n4 - 32)) (l.drop (n4 - 32)) = q := ⟨_, rfl⟩
                have hS' : Hid (Ob.startP x = some (Sha.sha bB, [] ++ [bB], x.path.dropLast)) := by
                  show _ = _
                  have hnn := hll.out
                  rw [hS.out, if_pos ⟨by omega, by omega, by rw [← hnn]; exact hkxd.out⟩, ← hnn, hbB]
                  rfl
                have hbl : Hid (bB.length ≤ 70368744177664) := by show _ ≤ _; rw [← hbB]; simp only [Ob.leafB, List.length_cons, List.length_append, Ob.num_len]; have := hkl2.out; have := hdl2.out; omega
                rw [hbB] at rbq
                have hS := hS'
                obtain ⟨SB, hSB⟩ : ∃ q, (some ⟨b3, o3, none⟩ : Option Addr) = q := ⟨_, rfl⟩
                obtain ⟨k, hkk⟩ : ∃ q, m - 1 = q := ⟨_, rfl⟩
                obtain ⟨se, hse⟩ : ∃ q, d = q := ⟨_, rfl⟩
                obtain ⟨st, hstt⟩ : ∃ q, x.path.dropLast = q := ⟨_, rfl⟩
                rw [hstt] at hS
                have hstq : Hid (RdS w3 (fun i => i < w1.heap.size) SB k se st) := by
                  show RdS _ _ _ _ _ _
                  have := hB3.out.to (k := m - 1) (by omega)
                  rw [← hSB, ← hkk, ← hse, ← hstt, List.dropLast_eq_take, ← hml.out]
                  exact this
                rw [hSB, hkk, hse]
                clear hbB hS' hstt hSB hkk hse hmL hmM hmw hmd5 hck hckI hm1 hm1000 hmI hmJ g3
                have ow := own_alc hTk.out.own (.cells #[.slice A7 n7 c7] 23)
                have ro := Row.new wq 23 #[.slice A7 n7 c7] (sz := 1) (n := 1) _ rfl rfl (by decide)
                have on : ∀ u ∈ #[Value.slice A7 n7 c7].toList, u.oneCell' = true := by intro u hu; simp at hu; rw [hu]; rfl
                have hbs : w1.heap.size ≤ (wq.alloc (.cells #[.slice A7 n7 c7] 23)).heap.size := by have := hbq.out.size; have := b13.out.size; simp; omega
                go_wp2_with (at_builtin; refine wpl_app rfl (.tmp 88) (.tmp 90) 24 rfl w1.heap.size 23 _ 1 24 Tryd.underlying24 infoBytes rfl (by decide) (by decide) _ rfl 0 [] ow _ _ 1 1 rfl _ ro on (by omega) hbs 1 rfl ?hr1)
                case hr1 =>
                  intro TA5 tc5 w5 o5 g5 z5
                  have tk5 : Hid (Tk w5 23 w1.heap.size (.slice TA5 1 tc5) ([] ++ [bB]) ([] ++ [.slice A7 n7 c7])) := hTk.out.push ⟨_, _, _, rfl, rbq.out⟩ o5 g5 z5
                  have b5 : Hid (Below w1.heap.size w3 w5) := hbq.out.trans (hTk.out.below g5 (by have := hbq.out.size; have := b13.out.size; omega))
                  have rb5 : Hid (Rd w5 (fun _ => True) A7 n7 c7 bB) := (rbq.out.fr (((Fr.refl (fun i => (Value.slice (some ⟨w1.heap.size, 0, none⟩) 0 0).ownBlock = some i) wq).alloc _).grown g5 (fun _ e => .inl e)) (fun i h e => h e)).mono (fun _ _ _ => trivial)
                  clear o5 g5 z5 ow ro on hbs
                  go_wp2_with fail
                  refine (refsums_any w5 rb5.out hbl.out).mono ?_
                  rintro e w6 ⟨A8, n8, c8, rfl, hr8, hb8⟩
                  have tk6 : Hid (Tk w6 23 w1.heap.size (.slice TA5 1 tc5) ([] ++ [bB]) ([] ++ [.slice A7 n7 c7])) := tk5.out.up hb8
                  have b6 : Hid (Below w1.heap.size w3 w6) := b5.out.trans (hb8.mono (by have := b5.out.size; have := b13.out.size; omega))
                  have r8d := Lib.hid (hr8.mono (T := fun _ => True) (fun _ _ _ => trivial))
                  have hkst : Hid (k = st.length) := hstq.out.len
                  have hFol : Hid (Ob.followP x = Ob.climb x.key st.reverse 4294967296 (Sha.sha bB) ([] ++ [bB])) := by show _ = _; unfold Ob.followP; rw [if_pos hkld.out, hS.out]
                  have hk1000 : Hid (k ≤ 1000) := by show _ ≤ _; have := (Ob.startP_facts hS.out).2.1; have := hmd.out; have := hkst.out; omega
                  have hkb : k ≤ 1000 := hk1000.out
                  have hstl : Hid (∀ s ∈ st, s.length ≤ 1000000) := fun s h => hpd.out s ((Ob.startP_facts hS.out).2.2 s h)
                  clear hr8 hb8
                  go_wp2_with fail
                  go_loopw [6, 10, 11, 12] (fun t6 t10 t11 t12 wr => ∃ (j ab : Nat) (dg : List UInt8) (tk : List (List UInt8)) (vs : List Value) (TA' : Option Addr) (tc' : Nat) (A' : Option Addr) (n' c' : Nat), j ≤ k ∧ t12 = .int .i64 ((j : Int) - 1) ∧ ((t11 = .int .i64 (-1) ∧ ab = 4294967296) ∨ (t11 = .int .i64 ab ∧ ab < 4294967296)) ∧ dg.length = 32 ∧ t10 = .slice A' n' c' ∧ Rd wr (fun _ => True) A' n' c' dg ∧
                    t6 = .slice TA' tk.length tc' ∧ Tk wr 23 w1.heap.size (.slice TA' tk.length tc') tk vs ∧ tk.length + j ≤ 2 + k ∧ Ob.climb x.key (st.take j).reverse ab dg tk = Ob.climb x.key st.reverse 4294967296 (Sha.sha bB) ([] ++ [bB]) ∧ Below w1.heap.size w3 wr) (fun _ _ _ t12 _ => (intOf t12 + 1).toNat)
                  case atStart =>
                    have hlen : ([] ++ [bB]).length = 1 := rfl
                    exact ⟨k, 4294967296, Sha.sha bB, [] ++ [bB], _, TA5, tc5, A8, n8, c8, Nat.le_refl _, rfl, .inl ⟨rfl, rfl⟩, Sha.length_sha _, rfl, r8d.out, by rw [hlen], by rw [hlen]; exact tk6.out, by rw [hlen]; omega, by rw [hkst.out, List.take_length], b6.out⟩
                  case round =>
                    obtain ⟨j, ab, dg, tk, vs, TA', tc', A', n', c', hj, rfl, hab, hdg, rfl, hdr, rfl, hTr, htk, hcl, hwr⟩ := hrel
                    have hjd := Lib.hid hj
                    have hdgd := Lib.hid hdg
                    have hdrd := Lib.hid hdr
                    have hTrd := Lib.hid hTr
                    have htkd := Lib.hid htk
                    have hcld := Lib.hid hcl
                    have hwrd := Lib.hid hwr
                    have kGr := kG3.out.below hwr hGlt.out
                    have g0 := (kGr.cell 0).trans rfl
                    clear hdg hdr hTr htk hcl hwr kGr
                    cases j with
                    | zero =>
                      have hz : ((0 : Nat) : Int) - 1 = -1 := rfl
                      rw [hz]
                      have hF : Hid (Ob.followP x = some (dg, tk)) := by show _ = _; rw [hFol.out, ← hcld.out]; rfl
                      clear hz g0 hj hab
                      go_wp2_with fail
                      go_returns
                      rw [hF.out]
                      exact ⟨hb3d.out.trans (hwrd.out.mono hb1d.out.size), _, _, _, _, _, _, rfl, hdrd.out, hTrd.out.rds⟩
                    | succ j =>
                      have hz : ((j + 1 : Nat) : Int) - 1 = (j : Int) := by omega
                      rw [hz]
                      have hjk : j < k := by omega
                      have hjkI : (j : Int) < (k : Int) := by omega
                      obtain ⟨s, hs⟩ : ∃ s, st[j]? = some s := ⟨_, List.getElem?_eq_getElem (by have := hkst.out; omega)⟩
                      obtain ⟨b6', o6, s6, hBe, hl6, hbl6, ⟨A6, n6, c6, rfl, r6⟩, d6⟩ := hstq.out.get hs
                      subst hBe
                      have e6 := (hwrd.out.cell (p := ⟨b6', o6 + j, none⟩) hl6).trans d6
                      have hn6 : Hid (n6 = s.length) := r6.len
                      have hlc6 : Hid (n6 ≤ c6 ∧ c6 ≤ maxLen) := ⟨r6.le, r6.max⟩
                      have hstep : Hid (Ob.climb x.key st.reverse 4294967296 (Sha.sha bB) ([] ++ [bB]) = if s.length = 36 ∧ Ob.val4 s < ab then Ob.climb x.key (st.take j).reverse (Ob.val4 s) (Sha.sha (Ob.stepB x.key s dg)) (tk ++ [Ob.stepB x.key s dg]) else none) := by
                        show _ = _
                        rw [← hcld.out, List.take_succ_eq_append_getElem (by have := hkst.out; omega)]
                        have hse : st[j]'(by have := hkst.out; omega) = s := by
                          have := List.getElem?_eq_some_iff.1 hs
                          exact this.2
                        rw [hse, List.reverse_append]
                        rfl
                      clear hz hs d6 hj
                      by_cases h36 : n6 = 36
                      · have h1 : decide (n6 = 36) = true := by simpa using h36
                        have h2 : ((n6 : Int) != 36) = false := by rw [h36]; rfl
                        have h3 : ((n6 : Int) == 36) = true := by rw [h36]; rfl
                        obtain ⟨b7, o7, hA6, hl7, hbl7, hc7⟩ := r6.at_ (by omega)
                        subst hA6
                        have h36d := Lib.hid h36
                        have h36n : 36 ≤ n6 := by omega
                        have r6d := Lib.hid r6
                        have b7q : ∀ q, q < 4 → ∀ w', Ab wr.drew w' → w'.cell? ⟨b7, o7 + q, none⟩ = some (.int .u8 ((s.getD q 0).toNat : Int)) := fun q hq w' h => (Below.cell h (p := ⟨b7, o7 + q, none⟩) (Nat.lt_of_lt_of_le hbl7 hwrd.out.size)).trans ((hwrd.out.cell (p := ⟨b7, o7 + q, none⟩) hl7).trans (hc7 q (by omega)))
                        have c0 := b7q 0 (by omega)
                        have c1 := b7q 1 (by omega)
                        have c2 := b7q 2 (by omega)
                        have c3 := b7q 3 (by omega)
                        have hv0 := (s.getD 0 0).toNat_lt
                        have hv1 := (s.getD 1 0).toNat_lt
                        have hv2 := (s.getD 2 0).toNat_lt
                        have hv3 := (s.getD 3 0).toNat_lt
                        have hZ0 : Hid (Ob.val4 s = (s.getD 0 0).toNat * 16777216 + (s.getD 1 0).toNat * 65536 + (s.getD 2 0).toNat * 256 + (s.getD 3 0).toNat) := rfl
                        rw [Nat.add_zero] at c0
                        generalize (s.getD 0 0).toNat = V0 at c0 hv0 hZ0
                        generalize (s.getD 1 0).toNat = V1 at c1 hv1 hZ0
                        generalize (s.getD 2 0).toNat = V2 at c2 hv2 hZ0
                        generalize (s.getD 3 0).toNat = V3 at c3 hv3 hZ0
                        clear h36 hc7 r6 b7q
                        go_upto_region 30 with fail
                        refine wp_region_plan Ab Ab.refl Ab.trans [] [0, 1, 2, 3, 4, 5, 6, 7, 8, 9, 10, 11, 12, 13, 14, 15, 16, 17, 18, 19, 20, 21, 22] (by kernel_rfl) (by kernel_rfl) (fun _ _ _ _ _ h => h) ?_
                        simp only [wpPlan, ordPick, Option.toList_some, List.cons_append, List.nil_append, List.getElem?_cons_succ, List.getElem?_cons_zero]
                        iterate 2 (go_big_quiet_step (exact fun _ => rfl))
                        refine wpq_load_one rfl 5 (.tmp 109) rfl ⟨b7, o7, none⟩ rfl _ c0 _ Tryd.underlying5 rfl ?_
                        simp only [Act.put, List.setIfInBounds_toArray, List.set_cons_succ, List.set_cons_zero]
                        iterate 4 (go_big_quiet_step (exact fun _ => rfl))
                        refine wpq_load_one rfl 5 (.tmp 114) rfl ⟨b7, o7 + 1, none⟩ rfl _ c1 _ Tryd.underlying5 rfl ?_
                        simp only [Act.put, List.setIfInBounds_toArray, List.set_cons_succ, List.set_cons_zero]
                        iterate 5 (go_big_quiet_step (exact fun _ => rfl))
                        refine wpq_load_one rfl 5 (.tmp 120) rfl ⟨b7, o7 + 2, none⟩ rfl _ c2 _ Tryd.underlying5 rfl ?_
                        simp only [Act.put, List.setIfInBounds_toArray, List.set_cons_succ, List.set_cons_zero]
                        iterate 5 (go_big_quiet_step (exact fun _ => rfl))
                        refine wpq_load_one rfl 5 (.tmp 126) rfl ⟨b7, o7 + 3, none⟩ rfl _ c3 _ Tryd.underlying5 rfl ?_
                        simp only [Act.put, List.setIfInBounds_toArray, List.set_cons_succ, List.set_cons_zero]
                        iterate 3 (go_big_quiet_step (exact fun _ => rfl))
                        refine wpQuiet_nil ?_
                        obtain ⟨Z, hZ⟩ : ∃ Z, Ob.val4 s = Z := ⟨_, rfl⟩
                        rw [show (V0 : Int) * 16777216 + (V1 : Int) * 65536 + (V2 : Int) * 256 + (V3 : Int) = (Z : Int) by have := hZ0.out; omega]
                        have hZlt : Z < 4294967296 := by rw [← hZ]; exact Ob.val4_lt s
                        rw [hZ] at hstep
                        have hZd := Lib.hid hZ
                        have bd : Hid (Ab wr wr.drew) := ab_drew wr
                        have hTkN : Hid (Tk wr.drew 23 w1.heap.size (.slice TA' tk.length tc') tk vs) := hTrd.out.up bd.out
                        have hdN : Hid (Rd wr.drew (fun _ => True) A' n' c' dg) := hdrd.out.ab bd.out
                        have hbN : Hid (Below w1.heap.size w3 wr.drew) := hwrd.out.trans (Below.mono bd.out (by have := hwrd.out.size; have := b13.out.size; omega))
                        have hc4 : ¬ c6 = 4 := by have := hlc6.out; omega
                        have hc4I : ¬ (c6 : Int) = 4 := by omega
                        have rD : Hid (Rd wr.drew (fun _ => True) (some ⟨b7, o7 + 4, none⟩) (n6 - 4) (c6 - 4) (s.drop 4)) := by
                          have hf : Fr (fun i => w1.heap.size ≤ i) w3 wr := ⟨hwrd.out.os, hwrd.out.tape, hwrd.out.output, hwrd.out.size, fun k _ h => hwrd.out.block k (by omega)⟩
                          have h := (((r6d.out.fr hf (fun i h1 h2 => by omega)).mono (T := fun _ => True) (fun _ _ _ => trivial)).ab bd.out).from_ (k := 4) (by omega)
                          rw [if_neg hc4, Option.map_some, add_none] at h
                          exact h
                        have g0N : wr.drew.cell? ⟨G, 0, none⟩ = some (.string ⟨x.key.toArray⟩) := g0
                        have hsl : Hid ((s.drop 4).length ≤ 1000000) := by show _ ≤ _; rw [List.length_drop]; have := hn6.out; have := h36d.out; omega
                        have hdl : Hid (dg.length ≤ 1000000) := by show _ ≤ _; have := hdgd.out; omega
                        clear hZ c0 c1 c2 c3 hv0 hv1 hv2 hv3 hZ0 g0 e6 h1 h2 h3
                        generalize wr.drew = w4 at bd hTkN hdN hbN rD g0N ⊢
                        rcases hab with ⟨rfl, rfl⟩ | ⟨rfl, habl⟩
                        · have hltd : Hid (Z < 4294967296) := hZlt
                          go_wp2_with fail
                          refine (refbit_any w4 x.key Z (by have := hkd.out; omega) (by omega)).mono ?_
                          rintro e w4' ⟨rfl, rfl⟩
                          by_cases hb0 : Ob.bitN x.key Z = 0
                          · have hb0I : ((Ob.bitN x.key Z : Nat) : Int) = 0 := by omega
                            have hsB : Hid (Ob.stepB x.key s dg = Ob.nodeB Z dg (s.drop 4)) := by show _ = _; unfold Ob.stepB; rw [hZd.out, if_pos hb0]
                            go_wp2_with fail
                            refine (refnoded_any w4 Z (by omega) hdN.out rD.out hdl.out hsl.out).mono ?_
                            rintro e w5 ⟨A8, n8, c8, rfl, hr8, hb8⟩
                            have hlt8 : ∀ i, (Value.slice TA' tk.length tc').ownBlock = some i → i < w4.heap.size := fun i e => (own_lt hTkN.out.own i e).2
                            have r8 : Hid (Rd w5 (fun i => (Value.slice TA' tk.length tc').ownBlock ≠ some i) A8 n8 c8 (Ob.nodeB Z dg (s.drop 4))) := hr8.mono (fun i _ h e => by have := hlt8 i e; omega)
                            have t8 := hTkN.out.up hb8
                            have b8 : Hid (Below w1.heap.size w3 w5) := hbN.out.trans (hb8.mono (by have := hbN.out.size; have := b13.out.size; omega))
                            have hNl : Hid ((Ob.nodeB Z dg (s.drop 4)).length ≤ 70368744177664) := by show _ ≤ _; simp [Ob.nodeB, Ob.num_len]; have := hdgd.out; have := hn6.out; have := h36d.out; omega
                            have ow8 := own_alc t8.own (.cells #[.slice A8 n8 c8] 23)
                            have ro8 := Row.new w5 23 #[.slice A8 n8 c8] (sz := 1) (n := 1) _ rfl rfl (by decide)
                            have on8 : ∀ u ∈ #[Value.slice A8 n8 c8].toList, u.oneCell' = true := by intro u hu; simp at hu; rw [hu]; rfl
                            have htk8 : tk.length ≤ 2000 := by have := htkd.out; have := hk1000.out; omega
                            have hbs8 : w1.heap.size ≤ (w5.alloc (.cells #[.slice A8 n8 c8] 23)).heap.size := by have := b8.out.size; have := b13.out.size; simp; omega
                            have t8d := Lib.hid t8
                            clear hr8 hb8 hlt8 t8
                            go_wp2_with (at_builtin; refine wpl_app rfl (.tmp 153) (.tmp 155) 24 rfl w1.heap.size 23 _ 1 24 Tryd.underlying24 infoBytes rfl (by decide) (by decide) _ rfl tk.length vs ow8 _ _ 1 1 rfl _ ro8 on8 (by omega) hbs8 (tk.length + 1) rfl ?hn)
                            case hn =>
                              intro TA9 tc9 w9 o9 g9 z9
                              have t9 : Hid (Tk w9 23 w1.heap.size (.slice TA9 (tk.length + 1) tc9) (tk ++ [Ob.nodeB Z dg (s.drop 4)]) (vs ++ [.slice A8 n8 c8])) := t8d.out.push ⟨_, _, _, rfl, r8.out⟩ o9 g9 z9
                              have b9 : Hid (Below w1.heap.size w3 w9) := b8.out.trans (t8d.out.below g9 (by have := b8.out.size; have := b13.out.size; omega))
                              have r9 : Hid (Rd w9 (fun _ => True) A8 n8 c8 (Ob.nodeB Z dg (s.drop 4))) := (r8.out.fr (((Fr.refl (fun i => (Value.slice TA' tk.length tc').ownBlock = some i) w5).alloc _).grown g9 (fun _ e => .inl e)) (fun i h e => h e)).mono (fun _ _ _ => trivial)
                              clear o9 g9 z9 ow8 ro8 on8 hbs8
                              go_wp2_with fail
                              refine (refsums_any w9 r9.out hNl.out).mono ?_
                              rintro e w10 ⟨Aa, na, ca, rfl, hra, hba⟩
                              have t10 : Hid (Tk w10 23 w1.heap.size (.slice TA9 (tk.length + 1) tc9) (tk ++ [Ob.nodeB Z dg (s.drop 4)]) (vs ++ [.slice A8 n8 c8])) := t9.out.up hba
                              have b10 : Hid (Below w1.heap.size w3 w10) := b9.out.trans (hba.mono (by have := b9.out.size; have := b13.out.size; omega))
                              have rad := Lib.hid (hra.mono (T := fun _ => True) (fun _ _ _ => trivial))
                              clear hra hba
                              go_wp2_with fail
                              go_roundw
                              case rel =>
                                have hlen : (tk ++ [Ob.nodeB Z dg (s.drop 4)]).length = tk.length + 1 := by simp
                                refine ⟨j, Z, Sha.sha (Ob.nodeB Z dg (s.drop 4)), tk ++ [Ob.nodeB Z dg (s.drop 4)], _, TA9, tc9, Aa, na, ca, by omega, rfl, .inr ⟨rfl, hZlt⟩, Sha.length_sha _, rfl, rad.out, by rw [hlen], by rw [hlen]; exact t10.out, by rw [hlen]; have := htkd.out; omega, ?_, b10.out⟩
                                rw [hstep.out, if_pos ⟨by have := hn6.out; have := h36d.out; omega, hltd.out⟩, hsB.out]
                              case measure => simp [intOf]
                          · have hb0I : ¬ ((Ob.bitN x.key Z : Nat) : Int) = 0 := by omega
                            have hsB : Hid (Ob.stepB x.key s dg = Ob.nodeB Z (s.drop 4) dg) := by show _ = _; unfold Ob.stepB; rw [hZd.out, if_neg hb0]
                            go_wp2_with fail
                            refine (refnoded_any w4 Z (by omega) rD.out hdN.out hsl.out hdl.out).mono ?_
                            rintro e w5 ⟨A8, n8, c8, rfl, hr8, hb8⟩
                            have hlt8 : ∀ i, (Value.slice TA' tk.length tc').ownBlock = some i → i < w4.heap.size := fun i e => (own_lt hTkN.out.own i e).2
                            have r8 : Hid (Rd w5 (fun i => (Value.slice TA' tk.length tc').ownBlock ≠ some i) A8 n8 c8 (Ob.nodeB Z (s.drop 4) dg)) := hr8.mono (fun i _ h e => by have := hlt8 i e; omega)
                            have t8 := hTkN.out.up hb8
                            have b8 : Hid (Below w1.heap.size w3 w5) := hbN.out.trans (hb8.mono (by have := hbN.out.size; have := b13.out.size; omega))
                            have hNl : Hid ((Ob.nodeB Z (s.drop 4) dg).length ≤ 70368744177664) := by show _ ≤ _; simp [Ob.nodeB, Ob.num_len]; have := hdgd.out; have := hn6.out; have := h36d.out; omega
                            have ow8 := own_alc t8.own (.cells #[.slice A8 n8 c8] 23)
                            have ro8 := Row.new w5 23 #[.slice A8 n8 c8] (sz := 1) (n := 1) _ rfl rfl (by decide)
                            have on8 : ∀ u ∈ #[Value.slice A8 n8 c8].toList, u.oneCell' = true := by intro u hu; simp at hu; rw [hu]; rfl
                            have htk8 : tk.length ≤ 2000 := by have := htkd.out; have := hk1000.out; omega
                            have hbs8 : w1.heap.size ≤ (w5.alloc (.cells #[.slice A8 n8 c8] 23)).heap.size := by have := b8.out.size; have := b13.out.size; simp; omega
                            have t8d := Lib.hid t8
                            clear hr8 hb8 hlt8 t8
                            go_wp2_with (at_builtin; refine wpl_app rfl (.tmp 153) (.tmp 155) 24 rfl w1.heap.size 23 _ 1 24 Tryd.underlying24 infoBytes rfl (by decide) (by decide) _ rfl tk.length vs ow8 _ _ 1 1 rfl _ ro8 on8 (by omega) hbs8 (tk.length + 1) rfl ?hn)
                            case hn =>
                              intro TA9 tc9 w9 o9 g9 z9
                              have t9 : Hid (Tk w9 23 w1.heap.size (.slice TA9 (tk.length + 1) tc9) (tk ++ [Ob.nodeB Z (s.drop 4) dg]) (vs ++ [.slice A8 n8 c8])) := t8d.out.push ⟨_, _, _, rfl, r8.out⟩ o9 g9 z9
                              have b9 : Hid (Below w1.heap.size w3 w9) := b8.out.trans (t8d.out.below g9 (by have := b8.out.size; have := b13.out.size; omega))
                              have r9 : Hid (Rd w9 (fun _ => True) A8 n8 c8 (Ob.nodeB Z (s.drop 4) dg)) := (r8.out.fr (((Fr.refl (fun i => (Value.slice TA' tk.length tc').ownBlock = some i) w5).alloc _).grown g9 (fun _ e => .inl e)) (fun i h e => h e)).mono (fun _ _ _ => trivial)
                              clear o9 g9 z9 ow8 ro8 on8 hbs8
                              go_wp2_with fail
                              refine (refsums_any w9 r9.out hNl.out).mono ?_
                              rintro e w10 ⟨Aa, na, ca, rfl, hra, hba⟩
                              have t10 : Hid (Tk w10 23 w1.heap.size (.slice TA9 (tk.length + 1) tc9) (tk ++ [Ob.nodeB Z (s.drop 4) dg]) (vs ++ [.slice A8 n8 c8])) := t9.out.up hba
                              have b10 : Hid (Below w1.heap.size w3 w10) := b9.out.trans (hba.mono (by have := b9.out.size; have := b13.out.size; omega))
                              have rad := Lib.hid (hra.mono (T := fun _ => True) (fun _ _ _ => trivial))
                              clear hra hba
                              go_wp2_with fail
                              go_roundw
                              case rel =>
                                have hlen : (tk ++ [Ob.nodeB Z (s.drop 4) dg]).length = tk.length + 1 := by simp
                                refine ⟨j, Z, Sha.sha (Ob.nodeB Z (s.drop 4) dg), tk ++ [Ob.nodeB Z (s.drop 4) dg], _, TA9, tc9, Aa, na, ca, by omega, rfl, .inr ⟨rfl, hZlt⟩, Sha.length_sha _, rfl, rad.out, by rw [hlen], by rw [hlen]; exact t10.out, by rw [hlen]; have := htkd.out; omega, ?_, b10.out⟩
                                rw [hstep.out, if_pos ⟨by have := hn6.out; have := h36d.out; omega, hltd.out⟩, hsB.out]
                              case measure => simp [intOf]
                        · by_cases hlt : Z < ab
                          · have hltI : decide (ab ≤ Z) = false := by simp; omega
                            have hltJ : decide ((ab : Int) ≤ (Z : Int)) = false := by simp; omega
                            have h0I : decide ((0 : Int) ≤ (ab : Int)) = true := by simp
                            have hltd := Lib.hid hlt
                            clear hlt
                            go_wp2_with fail
                            refine (refbit_any w4 x.key Z (by have := hkd.out; omega) (by omega)).mono ?_
                            rintro e w4' ⟨rfl, rfl⟩
                            by_cases hb0 : Ob.bitN x.key Z = 0
                            · have hb0I : ((Ob.bitN x.key Z : Nat) : Int) = 0 := by omega
                              have hsB : Hid (Ob.stepB x.key s dg = Ob.nodeB Z dg (s.drop 4)) := by show _ = _; unfold Ob.stepB; rw [hZd.out, if_pos hb0]
                              go_wp2_with fail
                              refine (refnoded_any w4 Z (by omega) hdN.out rD.out hdl.out hsl.out).mono ?_
                              rintro e w5 ⟨A8, n8, c8, rfl, hr8, hb8⟩
                              have hlt8 : ∀ i, (Value.slice TA' tk.length tc').ownBlock = some i → i < w4.heap.size := fun i e => (own_lt hTkN.out.own i e).2
                              have r8 : Hid (Rd w5 (fun i => (Value.slice TA' tk.length tc').ownBlock ≠ some i) A8 n8 c8 (Ob.nodeB Z dg (s.drop 4))) := hr8.mono (fun i _ h e => by have := hlt8 i e; omega)
                              have t8 := hTkN.out.up hb8
                              have b8 : Hid (Below w1.heap.size w3 w5) := hbN.out.trans (hb8.mono (by have := hbN.out.size; have := b13.out.size; omega))
                              have hNl : Hid ((Ob.nodeB Z dg (s.drop 4)).length ≤ 70368744177664) := by show _ ≤ _; simp [Ob.nodeB, Ob.num_len]; have := hdgd.out; have := hn6.out; have := h36d.out; omega
                              have ow8 := own_alc t8.own (.cells #[.slice A8 n8 c8] 23)
                              have ro8 := Row.new w5 23 #[.slice A8 n8 c8] (sz := 1) (n := 1) _ rfl rfl (by decide)
                              have on8 : ∀ u ∈ #[Value.slice A8 n8 c8].toList, u.oneCell' = true := by intro u hu; simp at hu; rw [hu]; rfl
                              have htk8 : tk.length ≤ 2000 := by have := htkd.out; have := hk1000.out; omega
                              have hbs8 : w1.heap.size ≤ (w5.alloc (.cells #[.slice A8 n8 c8] 23)).heap.size := by have := b8.out.size; have := b13.out.size; simp; omega
                              have t8d := Lib.hid t8
                              clear hr8 hb8 hlt8 t8
                              go_wp2_with (at_builtin; refine wpl_app rfl (.tmp 153) (.tmp 155) 24 rfl w1.heap.size 23 _ 1 24 Tryd.underlying24 infoBytes rfl (by decide) (by decide) _ rfl tk.length vs ow8 _ _ 1 1 rfl _ ro8 on8 (by omega) hbs8 (tk.length + 1) rfl ?hn)
                              case hn =>
                                intro TA9 tc9 w9 o9 g9 z9
                                have t9 : Hid (Tk w9 23 w1.heap.size (.slice TA9 (tk.length + 1) tc9) (tk ++ [Ob.nodeB Z dg (s.drop 4)]) (vs ++ [.slice A8 n8 c8])) := t8d.out.push ⟨_, _, _, rfl, r8.out⟩ o9 g9 z9
                                have b9 : Hid (Below w1.heap.size w3 w9) := b8.out.trans (t8d.out.below g9 (by have := b8.out.size; have := b13.out.size; omega))
                                have r9 : Hid (Rd w9 (fun _ => True) A8 n8 c8 (Ob.nodeB Z dg (s.drop 4))) := (r8.out.fr (((Fr.refl (fun i => (Value.slice TA' tk.length tc').ownBlock = some i) w5).alloc _).grown g9 (fun _ e => .inl e)) (fun i h e => h e)).mono (fun _ _ _ => trivial)
                                clear o9 g9 z9 ow8 ro8 on8 hbs8
                                go_wp2_with fail
                                refine (refsums_any w9 r9.out hNl.out).mono ?_
                                rintro e w10 ⟨Aa, na, ca, rfl, hra, hba⟩
                                have t10 : Hid (Tk w10 23 w1.heap.size (.slice TA9 (tk.length + 1) tc9) (tk ++ [Ob.nodeB Z dg (s.drop 4)]) (vs ++ [.slice A8 n8 c8])) := t9.out.up hba
                                have b10 : Hid (Below w1.heap.size w3 w10) := b9.out.trans (hba.mono (by have := b9.out.size; have := b13.out.size; omega))
                                have rad := Lib.hid (hra.mono (T := fun _ => True) (fun _ _ _ => trivial))
                                clear hra hba
                                go_wp2_with fail
                                go_roundw
                                case rel =>
                                  have hlen : (tk ++ [Ob.nodeB Z dg (s.drop 4)]).length = tk.length + 1 := by simp
                                  refine ⟨j, Z, Sha.sha (Ob.nodeB Z dg (s.drop 4)), tk ++ [Ob.nodeB Z dg (s.drop 4)], _, TA9, tc9, Aa, na, ca, by omega, rfl, .inr ⟨rfl, hZlt⟩, Sha.length_sha _, rfl, rad.out, by rw [hlen], by rw [hlen]; exact t10.out, by rw [hlen]; have := htkd.out; omega, ?_, b10.out⟩
                                  rw [hstep.out, if_pos ⟨by have := hn6.out; have := h36d.out; omega, hltd.out⟩, hsB.out]
                                case measure => simp [intOf]
                            · have hb0I : ¬ ((Ob.bitN x.key Z : Nat) : Int) = 0 := by omega
                              have hsB : Hid (Ob.stepB x.key s dg = Ob.nodeB Z (s.drop 4) dg) := by show _ = _; unfold Ob.stepB; rw [hZd.out, if_neg hb0]
                              go_wp2_with fail
                              refine (refnoded_any w4 Z (by omega) rD.out hdN.out hsl.out hdl.out).mono ?_
                              rintro e w5 ⟨A8, n8, c8, rfl, hr8, hb8⟩
                              have hlt8 : ∀ i, (Value.slice TA' tk.length tc').ownBlock = some i → i < w4.heap.size := fun i e => (own_lt hTkN.out.own i e).2
                              have r8 : Hid (Rd w5 (fun i => (Value.slice TA' tk.length tc').ownBlock ≠ some i) A8 n8 c8 (Ob.nodeB Z (s.drop 4) dg)) := hr8.mono (fun i _ h e => by have := hlt8 i e; omega)
                              have t8 := hTkN.out.up hb8
                              have b8 : Hid (Below w1.heap.size w3 w5) := hbN.out.trans (hb8.mono (by have := hbN.out.size; have := b13.out.size; omega))
                              have hNl : Hid ((Ob.nodeB Z (s.drop 4) dg).length ≤ 70368744177664) := by show _ ≤ _; simp [Ob.nodeB, Ob.num_len]; have := hdgd.out; have := hn6.out; have := h36d.out; omega
                              have ow8 := own_alc t8.own (.cells #[.slice A8 n8 c8] 23)
                              have ro8 := Row.new w5 23 #[.slice A8 n8 c8] (sz := 1) (n := 1) _ rfl rfl (by decide)
                              have on8 : ∀ u ∈ #[Value.slice A8 n8 c8].toList, u.oneCell' = true := by intro u hu; simp at hu; rw [hu]; rfl
                              have htk8 : tk.length ≤ 2000 := by have := htkd.out; have := hk1000.out; omega
                              have hbs8 : w1.heap.size ≤ (w5.alloc (.cells #[.slice A8 n8 c8] 23)).heap.size := by have := b8.out.size; have := b13.out.size; simp; omega
                              have t8d := Lib.hid t8
                              clear hr8 hb8 hlt8 t8
                              go_wp2_with (at_builtin; refine wpl_app rfl (.tmp 153) (.tmp 155) 24 rfl w1.heap.size 23 _ 1 24 Tryd.underlying24 infoBytes rfl (by decide) (by decide) _ rfl tk.length vs ow8 _ _ 1 1 rfl _ ro8 on8 (by omega) hbs8 (tk.length + 1) rfl ?hn)
                              case hn =>
                                intro TA9 tc9 w9 o9 g9 z9
                                have t9 : Hid (Tk w9 23 w1.heap.size (.slice TA9 (tk.length + 1) tc9) (tk ++ [Ob.nodeB Z (s.drop 4) dg]) (vs ++ [.slice A8 n8 c8])) := t8d.out.push ⟨_, _, _, rfl, r8.out⟩ o9 g9 z9
                                have b9 : Hid (Below w1.heap.size w3 w9) := b8.out.trans (t8d.out.below g9 (by have := b8.out.size; have := b13.out.size; omega))
                                have r9 : Hid (Rd w9 (fun _ => True) A8 n8 c8 (Ob.nodeB Z (s.drop 4) dg)) := (r8.out.fr (((Fr.refl (fun i => (Value.slice TA' tk.length tc').ownBlock = some i) w5).alloc _).grown g9 (fun _ e => .inl e)) (fun i h e => h e)).mono (fun _ _ _ => trivial)
                                clear o9 g9 z9 ow8 ro8 on8 hbs8
                                go_wp2_with fail
                                refine (refsums_any w9 r9.out hNl.out).mono ?_
                                rintro e w10 ⟨Aa, na, ca, rfl, hra, hba⟩
                                have t10 : Hid (Tk w10 23 w1.heap.size (.slice TA9 (tk.length + 1) tc9) (tk ++ [Ob.nodeB Z (s.drop 4) dg]) (vs ++ [.slice A8 n8 c8])) := t9.out.up hba
                                have b10 : Hid (Below w1.heap.size w3 w10) := b9.out.trans (hba.mono (by have := b9.out.size; have := b13.out.size; omega))
                                have rad := Lib.hid (hra.mono (T := fun _ => True) (fun _ _ _ => trivial))
                                clear hra hba
                                go_wp2_with fail
                                go_roundw
                                case rel =>
                                  have hlen : (tk ++ [Ob.nodeB Z (s.drop 4) dg]).length = tk.length + 1 := by simp
                                  refine ⟨j, Z, Sha.sha (Ob.nodeB Z (s.drop 4) dg), tk ++ [Ob.nodeB Z (s.drop 4) dg], _, TA9, tc9, Aa, na, ca, by omega, rfl, .inr ⟨rfl, hZlt⟩, Sha.length_sha _, rfl, rad.out, by rw [hlen], by rw [hlen]; exact t10.out, by rw [hlen]; have := htkd.out; omega, ?_, b10.out⟩
                                  rw [hstep.out, if_pos ⟨by have := hn6.out; have := h36d.out; omega, hltd.out⟩, hsB.out]
                                case measure => simp [intOf]
                          · have hltI : decide (ab ≤ Z) = true := by simp; omega
                            have hltJ : decide ((ab : Int) ≤ (Z : Int)) = true := by simp; omega
                            have h0I : decide ((0 : Int) ≤ (ab : Int)) = true := by simp
                            have hF : Hid (Ob.followP x = none) := by show _ = _; rw [hFol.out, hstep.out, if_neg (fun h => hlt h.2)]
                            clear hlt
                            go_wp2_with fail
                            go_returns
                            rw [hF.out]
                            exact ⟨hb3d.out.trans (hbN.out.mono hb1d.out.size), rfl⟩
                      · have h1 : decide (n6 = 36) = false := by simpa using h36
                        have h2 : ((n6 : Int) != 36) = true := by simp; omega
                        have h3 : ((n6 : Int) == 36) = false := by simp; omega
                        have hF : Hid (Ob.followP x = none) := by show _ = _; rw [hFol.out, hstep.out, if_neg (fun h => h36 (by have := hn6.out; omega))]
                        clear h36 hab
                        go_wp2_with fail
                        go_returns
                        rw [hF.out]
                        exact ⟨hb3d.out.trans (hwrd.out.mono hb1d.out.size), rfl⟩
            · have h1 : decide (n4 < 32) = false := by simp; omega
              have h2 : decide ((n4 : Int) < 32) = false := by simp; omega
              have h3 : decide (65568 < n4) = true := by simp; omega
              have h4 : decide (65568 < (n4 : Int)) = true := by simp; omega
              have hF : Hid (Ob.followP x = none) := by show _ = _; unfold Ob.followP; rw [if_pos hkld.out, hS.out, if_neg (fun h => by have := hll.out; omega)]
              clear h32 h65
              go_wp2_with fail
              go_returns
              rw [hF.out]
              exact ⟨hb3d.out, rfl⟩
      · have hct : ¬ x.content = [] := fun h => hn0 (by have := hnl.out; rw [h] at this; simpa using this)
        have hF : Hid (Ob.followP x = none) := by show _ = _; unfold Ob.followP Ob.startP; rw [if_pos hkld.out, if_neg hpr, if_neg hct]
        have hnI : decide (n = 0) = false := by simpa using hn0
        have hnJ : ((n : Int) != 0) = true := by simp; omega
        have hnK : ((n : Int) == 0) = false := by simp; omega
        clear hct hn0 hpr
        go_wp2_with fail
        go_returns
        rw [hF.out]
        exact ⟨hb3d.out, rfl⟩
  · have hkI : decide (65536 < x.key.length) = true := by simp; omega
    have hkJ : decide (65536 < (x.key.length : Int)) = true := by simp; omega
    have hF : Hid (Ob.followP x = none) := by show _ = _; unfold Ob.followP; rw [if_neg hkl]
    clear hkl
    go_wp2_with fail
    go_returns
    rw [hF.out]
    exact ⟨hb1d.out, rfl⟩
end Go.Proofs.YthoaenpbmmjokaaDoor


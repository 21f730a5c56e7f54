/-
  Under, walked: the part of a prefix.
-/
import Derived.Test.YtajohibeoicepaaDoorSyUn
namespace Go.Proofs.YtajohibeoicepaaDoor
open Go.RowKit Go.Pl
theorem infoCm : (Tryd.prog.info? 39).map (fun i => (i.zero, i.size, i.bytes)) = some (some (.agg #[.int .i64 0, .int .i64 0, .int .i64 0, .slice none 0 0, .int .i64 0, .slice none 0 0]), 6, 80) := by kernel_rfl
theorem infoDg : (Tryd.prog.info? 30).map (fun i => (i.zero, i.size, i.bytes)) = some (some (.agg #[.slice none 0 0, .slice none 0 0, .int .i64 0]), 3, 56) := by kernel_rfl
theorem infoBs : (Tryd.prog.info? 23).map (fun i => (i.zero, i.size, i.bytes)) = some (some (.slice none 0 0), 1, 24) := by kernel_rfl
set_option maxRecDepth 100000 in
theorem part_els (w : World) {S : Nat → Prop} {A P : Option Addr} {n c pn pc : Nat} {s : List Sy.Cm} {ps : List UInt8} (hS : ∀ i, S i → i < w.heap.size) (hs : RdE lCm w S A n c s) (hn : n ≤ 1000) (hz : ∀ x ∈ s, Sy.csz x ≤ 30000000) (hp : Rd w (fun i => i < w.heap.size) P pn pc ps) :
    Calls Tryd.prog 12 #[.slice A n c, .slice P pn pc] w fun e w' => ∃ A' n' c' vs, e = .returned (.slice A' n' c') ∧ Row w' (fun i => w.heap.size ≤ i) 6 A' n' c' vs ∧ Els lCm w' S (Sy.part ps s) vs ∧ Below w.heap.size w w' := by
  have hsd := Lib.hid hs
  have hSd := Lib.hid hS
  have hpd := Lib.hid hp
  have hzd := Lib.hid hz
  have hnl := Lib.hid hs.len
  clear hs hp hz hS
  go_enter Tryd.func12, Tryd.ntmps12
  go_wp2_with fail
  go_loopw [10, 5] (fun t u wr => ∃ (k : Nat) (B : Option Addr) (m d : Nat), k ≤ n ∧ t = .int .i64 k ∧ u = .slice B m d ∧ m ≤ k ∧ OwnE lCm wr S w.heap.size 39 u m (Sy.part ps (s.take k)) ∧ Below w.heap.size w wr) (fun t u _ => n - (intOf t).toNat)
  case atStart => exact ⟨0, none, 0, 0, Nat.zero_le _, rfl, rfl, Nat.le_refl _, ⟨[], World.ownsRow_nil _ _ _ _, rfl⟩, Below.refl _ _⟩
  case round =>
    obtain ⟨k, B, m, d, hk, rfl, rfl, hm, ho, hb⟩ := hrel
    have hbd := Lib.hid hb
    have hod := Lib.hid ho
    clear hb ho
    by_cases hlt : k < n
    · have hkl : k < s.length := by have := hnl.out; omega
      obtain ⟨x, hx⟩ : ∃ x, s[k]? = some x := ⟨_, List.getElem?_eq_getElem hkl⟩
      obtain ⟨b, o, u, rfl, hbB, hbl, ⟨A1, n1, c1, B1, m1, d1, rfl, hr1, hr2⟩, hcell⟩ := (hsd.out.fr (Fr.of_below (F := fun _ => False) hbd.out) (fun _ _ h => h)).get hx
      have e0 : wr.cell? ⟨b, o + k * 6, none⟩ = some (.int .i64 x.client) := hcell 0 _ rfl
      have e1 : wr.cell? ⟨b, o + k * 6 + 1, none⟩ = some (.int .i64 x.seq) := hcell 1 _ rfl
      have e2 : wr.cell? ⟨b, o + k * 6 + 2, none⟩ = some (.int .i64 x.kind) := hcell 2 _ rfl
      have e3 : wr.cell? ⟨b, o + k * 6 + 3, none⟩ = some (.slice A1 n1 c1) := hcell 3 _ rfl
      have e4 : wr.cell? ⟨b, o + k * 6 + 4, none⟩ = some (.int .i64 x.replica) := hcell 4 _ rfl
      have e5 : wr.cell? ⟨b, o + k * 6 + 5, none⟩ = some (.slice B1 m1 d1) := hcell 5 _ rfl
      have hxd := Lib.hid hx
      have hr1d := Lib.hid hr1
      have hr2d := Lib.hid hr2
      have hzx : Hid (Sy.csz x ≤ 30000000) := hzd.out x (List.mem_of_getElem? hx)
      clear hcell hr1 hr2 hx hkl hbB hbl
      go_wp2_with fail
      clear e0 e1 e2 e3 e4 e5
      obtain ⟨w1, hw1⟩ : ∃ w1, wr.alloc (.cells (cma x A1 n1 c1 B1 m1 d1) 39) = w1 := ⟨_, rfl⟩
      have hX : Blk w1 wr.heap.size 39 (cma x A1 n1 c1 B1 m1 d1) := by rw [← hw1]; exact Blk.new' rfl
      have hb1 : Hid (Below w.heap.size w w1) := by show Below _ _ _; rw [← hw1]; exact hbd.out.alloc hbd.out.size _
      have hb01 : Hid (Below wr.heap.size wr w1) := by show Below _ _ _; rw [← hw1]; exact (Below.refl _ _).alloc (Nat.le_refl _) _
      obtain ⟨X, hX0⟩ : ∃ X, wr.heap.size = X := ⟨_, rfl⟩
      rw [hw1]
      rw [hX0] at hX ⊢
      have hXd := Lib.hid hX
      have hwX : Hid (w.heap.size ≤ X) := hX0 ▸ hbd.out.size
      clear hw1 hX
      have hf1 := Fr.of_below (F := fun _ => False) hb1.out
      have hf01 := Fr.of_below (F := fun _ => False) hb01.out
      refine (under_any x w1 ((hr1d.out.fr hf01 (fun _ _ h => h)).mono (fun i hi _ => hi)) ((hr2d.out.fr hf01 (fun _ _ h => h)).mono (fun i hi _ => hi)) hzx.out ((hpd.out.fr hf1 (fun _ _ h => h)).mono (fun i hi _ => hi))).mono ?_
      rintro e w2 ⟨rfl, hb2⟩
      have hb12 : Hid (Below w1.heap.size w1 w2) := hb2
      have hb02 : Hid (Below wr.heap.size wr w2) := hb01.out.trans (hb2.mono hb01.out.size)
      have hbw2 : Hid (Below w.heap.size w w2) := hb1.out.trans (hb2.mono hb1.out.size)
      have hsn := Sy.part_snoc ps (s.take k) x
      have htk : s.take (k + 1) = s.take k ++ [x] := by
        obtain ⟨hk2, hx2⟩ := List.getElem?_eq_some_iff.1 hxd.out
        rw [List.take_succ_eq_append_getElem hk2, hx2]
      rw [← htk] at hsn
      clear hf1 hf01 hb2
      by_cases hpx : ps.isPrefixOf (Sy.digs (Sy.enc x)) = true
      · rw [if_pos hpx] at hsn
        rw [hpx]
        have hstep := Lib.hid hsn
        clear hpx hsn htk
        have hX2 : Blk w2 X 39 (cma x A1 n1 c1 B1 m1 d1) := hXd.out.fr (Fr.of_below (F := fun _ => False) hb12.out) (fun h => h)
        have e0 : w2.cell? ⟨X, 0, none⟩ = some (.int .i64 x.client) := (hX2.cell 0).trans rfl
        have e1 : w2.cell? ⟨X, 1, none⟩ = some (.int .i64 x.seq) := (hX2.cell 1).trans rfl
        have e2 : w2.cell? ⟨X, 2, none⟩ = some (.int .i64 x.kind) := (hX2.cell 2).trans rfl
        have e3 : w2.cell? ⟨X, 3, none⟩ = some (.slice A1 n1 c1) := (hX2.cell 3).trans rfl
        have e4 : w2.cell? ⟨X, 4, none⟩ = some (.int .i64 x.replica) := (hX2.cell 4).trans rfl
        have e5 : w2.cell? ⟨X, 5, none⟩ = some (.slice B1 m1 d1) := (hX2.cell 5).trans rfl
        obtain ⟨vs, ho1, ho2⟩ := (hod.out.fr (Fr.of_below (F := fun _ => False) hb02.out) (fun _ _ h => h) (fun _ _ h => h))
        have ho2d := Lib.hid ho2
        have hs2 := hbw2.out.size
        have o4 : (w2.alloc (.cells (cma x A1 n1 c1 B1 m1 d1) 39)).ownsRow w.heap.size 39 6 (.slice B m d) m vs := own_alc ho1 _
        have ro4 : Row (w2.alloc (.cells (cma x A1 n1 c1 B1 m1 d1) 39)) (fun i => i = w2.heap.size) 6 (some ⟨w2.heap.size, 0, none⟩) 1 1 [.int .i64 x.client, .int .i64 x.seq, .int .i64 x.kind, .slice A1 n1 c1, .int .i64 x.replica, .slice B1 m1 d1] := Row.new w2 _ _ _ rfl rfl (by decide)
        have on4 : ∀ u ∈ [Value.int .i64 x.client, .int .i64 x.seq, .int .i64 x.kind, .slice A1 n1 c1, .int .i64 x.replica, .slice B1 m1 d1], u.oneCell' = true := by
          intro u hu
          simp only [List.mem_cons, List.not_mem_nil, or_false] at hu
          rcases hu with rfl | rfl | rfl | rfl | rfl | rfl <;> rfl
        have hs4 : w.heap.size ≤ (w2.alloc (.cells (cma x A1 n1 c1 B1 m1 d1) 39)).heap.size := by rw [show (w2.alloc (.cells (cma x A1 n1 c1 B1 m1 d1) 39)).heap.size = w2.heap.size + 1 from Array.size_push _]; omega
        clear hX2 ho1 ho2 hs2
        go_wp2_with (at_builtin; refine wpl_app rfl (.tmp 17) (.tmp 19) 22 rfl w.heap.size 39 _ 6 80 Tryd.underlying22 infoCm rfl (by decide) (by decide) _ rfl m vs o4 _ _ 1 1 rfl _ ro4 on4 (by omega) hs4 (m + 1) rfl ?h2)
        case h2 =>
          intro A5 c5 w5 o5 g5 b5
          have hb25 : Below w.heap.size w2 w5 := ((Below.refl w.heap.size w2).alloc hbw2.out.size _).trans (((Fr.refl (fun i => w.heap.size ≤ i) _).grown g5 (fun k e => .inl (own_lt o4 k e).1)).below (fun _ h => h) hs4)
          have hb5 : Below w.heap.size w w5 := hbw2.out.trans hb25
          have hbr5 : Hid (Below w.heap.size wr w5) := (hb02.out.mono hbd.out.size).trans hb25
          have hb25d := Lib.hid hb25
          have hb5d := Lib.hid hb5
          have o5d := Lib.hid o5
          clear o4 ro4 on4 hs4 g5 b5 hb5 hb25 e0 e1 e2 e3 e4 e5
          have hE : Hid (Els lCm w5 S (Sy.part ps (s.take (k + 1))) (vs ++ [.int .i64 x.client, .int .i64 x.seq, .int .i64 x.kind, .slice A1 n1 c1, .int .i64 x.replica, .slice B1 m1 d1])) := by
            show Els _ _ _ _ _
            rw [hstep.out]
            exact (ho2d.out.fr (fr_low hb25d.out) (fun i h h' => by have := hSd.out i h; omega)).append (Els.single ⟨A1, n1, c1, B1, m1, d1, rfl, hr1d.out.fr (fr_low hbr5.out) (fun i h h' => by have := hSd.out i h; omega), hr2d.out.fr (fr_low hbr5.out) (fun i h h' => by have := hSd.out i h; omega)⟩)
          go_wp2_with fail
          go_roundw
          case rel => exact ⟨k + 1, A5, m + 1, c5, hlt, by go_num, rfl, by omega, ⟨_, o5d.out, hE.out⟩, hb5d.out⟩
          case measure => simp [intOf]; omega
      · rw [if_neg hpx, List.append_nil] at hsn
        have hpf : ps.isPrefixOf (Sy.digs (Sy.enc x)) = false := Bool.eq_false_iff.2 hpx
        rw [hpf]
        have hstep := Lib.hid hsn
        clear hpx hpf hsn htk
        go_wp2_with fail
        go_roundw
        case rel =>
          refine ⟨k + 1, B, m, d, hlt, by go_num, rfl, by omega, ?_, hbw2.out⟩
          rw [hstep.out]
          exact hod.out.fr (Fr.of_below (F := fun _ => False) hb02.out) (fun _ _ h => h) (fun _ _ h => h)
        case measure => simp [intOf]; omega
    · have hkn : k = n := by omega
      have hknd := Lib.hid hkn
      clear hkn
      go_wp2_with fail
      go_returns
      obtain ⟨vs, h1, h2⟩ := hod.out
      refine ⟨B, m, d, vs, rfl, (own_row h1).mono (fun i _ hi => (own_lt h1 i hi).1), ?_, hbd.out⟩
      have e : s.take k = s := by rw [hknd.out, hnl.out]; exact List.take_length
      rw [e] at h2
      exact h2
theorem part_any (w : World) {S : Nat → Prop} {A P : Option Addr} {n c pn pc : Nat} {s : List Sy.Cm} {ps : List UInt8} (hS : ∀ i, S i → i < w.heap.size) (hs : RdE lCm w S A n c s) (hn : n ≤ 1000) (hz : ∀ x ∈ s, Sy.csz x ≤ 30000000) (hp : Rd w (fun i => i < w.heap.size) P pn pc ps) :
    Calls Tryd.prog 12 #[.slice A n c, .slice P pn pc] w fun e w' => ∃ A' n' c', e = .returned (.slice A' n' c') ∧ RdE lCm w' (fun i => S i ∨ w.heap.size ≤ i) A' n' c' (Sy.part ps s) ∧ Below w.heap.size w w' := by
  refine (part_els w hS hs hn hz hp).mono ?_
  rintro e w' ⟨A', n', c', vs, rfl, h1, h2, h3⟩
  exact ⟨A', n', c', rfl, ⟨vs, h1.mono (fun i _ h => .inr h), h2.mono (fun i _ h => .inl h)⟩, h3⟩
end Go.Proofs.YtajohibeoicepaaDoor

/-
  The reference's Valid, All and Broadcast.
-/
import Derived.Test.YtplijfgjdlghbaaBRef2
import Derived.Test.YtplijfgjdlghbaaBAll
namespace Go.Proofs.Ytplijfgjdlghbaa
open Go.RowKit Go.Pl
theorem rvalid_any {w : World} {G : Nat} {n self : Nat} (g0 : w.cell? ⟨G, 0, none⟩ = some (.int .i64 n)) (g1 : w.cell? ⟨G, 1, none⟩ = some (.int .i64 self)) (hG : G < w.heap.size) {A : Option Addr} {pl pc : Nat} (m : Bra.Pkt) :
    Calls Try.prog 36 #[.pointer (some ⟨G, 0, none⟩), .agg #[.int .i64 m.kind, .int .i64 m.src, .int .i64 m.to, .int .i64 m.origin, .int .i64 m.number, .slice A pl pc]] w fun e w' =>
      e = .returned (.bool (Bra.valid n self m)) ∧ Below w.heap.size w w' := by
  obtain ⟨kd, src, to, o, k, bs⟩ := m
  by_cases h1 : to = self
  case neg => exact (rval1 g0 g1 hG kd src to o k (by simpa using h1)).mono (fun e w' h => ⟨by rw [h.1]; simp [Bra.valid, h1], h.2⟩)
  have b1 : (to == (self : Int)) = true := by simpa using h1
  by_cases h2 : 0 ≤ src
  case neg => exact (rval2 g0 g1 hG kd src to o k b1 (decide_eq_false h2)).mono (fun e w' h => ⟨by rw [h.1]; simp [Bra.valid, h2], h.2⟩)
  have b2 := decide_eq_true h2
  by_cases h3 : src < n
  case neg => exact (rval3 g0 g1 hG kd src to o k b1 b2 (decide_eq_false h3)).mono (fun e w' h => ⟨by rw [h.1]; simp [Bra.valid, h3], h.2⟩)
  have b3 := decide_eq_true h3
  by_cases h4 : 0 ≤ o
  case neg => exact (rval4 g0 g1 hG kd src to o k b1 b2 b3 (decide_eq_false h4)).mono (fun e w' h => ⟨by rw [h.1]; simp [Bra.valid, h4], h.2⟩)
  have b4 := decide_eq_true h4
  by_cases h5 : o < n
  case neg => exact (rval5 g0 g1 hG kd src to o k b1 b2 b3 b4 (decide_eq_false h5)).mono (fun e w' h => ⟨by rw [h.1]; simp [Bra.valid, h5], h.2⟩)
  have b5 := decide_eq_true h5
  by_cases h6 : 1 ≤ k
  case neg => exact (rval6 g0 g1 hG kd src to o k b1 b2 b3 b4 b5 (decide_eq_false h6)).mono (fun e w' h => ⟨by rw [h.1]; simp [Bra.valid, h6], h.2⟩)
  have b6 := decide_eq_true h6
  by_cases h7 : 1 ≤ kd
  case neg => exact (rval7 g0 g1 hG kd src to o k b1 b2 b3 b4 b5 b6 (decide_eq_false h7)).mono (fun e w' h => ⟨by rw [h.1]; simp [Bra.valid, h7], h.2⟩)
  have b7 := decide_eq_true h7
  by_cases h8 : kd ≤ 3
  case neg => exact (rval8 g0 g1 hG kd src to o k b1 b2 b3 b4 b5 b6 b7 (decide_eq_false h8)).mono (fun e w' h => ⟨by rw [h.1]; simp [Bra.valid, h8], h.2⟩)
  have b8 := decide_eq_true h8
  by_cases h9 : kd = 1
  case neg => exact (rval9 g0 g1 hG kd src to o k b1 b2 b3 b4 b5 b6 b7 b8 (by simpa using h9)).mono (fun e w' h => ⟨by rw [h.1]; simp [Bra.valid, h1, h2, h3, h4, h5, h6, h7, h8, h9], h.2⟩)
  by_cases h10 : src = o
  case pos => exact (rval10 g0 g1 hG kd src to o k b1 b2 b3 b4 b5 b6 b7 b8 (by simpa using h9) (by simpa using h10)).mono (fun e w' h => ⟨by rw [h.1]; subst h10; simp [Bra.valid, h1, h2, h3, h6, h9], h.2⟩)
  exact (rval11 g0 g1 hG kd src to o k b1 b2 b3 b4 b5 b6 b7 b8 (by simpa using h9) (by simpa using h10)).mono (fun e w' h => ⟨by rw [h.1]; simp [Bra.valid, h1, h2, h3, h4, h5, h6, h9, h10], h.2⟩)
set_option maxRecDepth 100000 in
set_option maxHeartbeats 2000000 in
theorem rall_any {w : World} {G n self : Nat} {bs : List UInt8} (hG0 : w.cell? ⟨G, 0, none⟩ = some (.int .i64 n)) (hG1 : w.cell? ⟨G, 1, none⟩ = some (.int .i64 self)) (hn : n ≤ 64) (hf : Fits bs) (kind o k : Int) :
    Calls Try.prog 30 #[.pointer (some ⟨G, 0, none⟩), .int .i64 kind, .int .i64 o, .int .i64 k, .string ⟨bs.toArray⟩] w fun e w' =>
      ∃ A' c', e = .returned (.slice A' n c') ∧ RdP w' (fun i => w.heap.size ≤ i) A' n c' (Bra.all n self kind o k bs) ∧ Below w.heap.size w w' := by
  have hGl0 : G < w.heap.size := World.block_lt_of_cell? w _ hG0
  have hGl := Lib.hid hGl0
  have hF := Lib.hid hf
  clear hf
  go_enter Try.func30, Try.ntmps30
  go_wp2_with fail
  clear hGl0
  go_loopw [11, 12] (fun t11 t12 wr => ∃ (i : Nat) (A' : Option Addr) (c' : Nat) (vs : List Value) (T : Nat → Prop), i ≤ n ∧ t12 = .int .i64 i ∧ t11 = .slice A' i c' ∧ wr.ownsRow w.heap.size 35 6 (.slice A' i c') i vs ∧
      PksIs wr T ((Bra.all n self kind o k bs).take i) vs ∧ (∀ g, T g → w.heap.size ≤ g ∧ g < wr.heap.size ∧ (Value.slice A' i c').ownBlock ≠ some g) ∧ Below w.heap.size w wr) (fun _ t12 _ => n - (intOf t12).toNat)
  case atStart => exact ⟨0, some ⟨w.heap.size, 0, none⟩, 0, [], fun _ => False, by omega, rfl, rfl, World.ownsRow_made w #[] 0 (Nat.le_refl _) (Nat.zero_le _) rfl, by simp [PksIs], fun _ h => h.elim, (Below.refl _ _).alloc (Nat.le_refl _) _⟩
  case round =>
    obtain ⟨i, A', c', vs, T, hi, rfl, rfl, hown, hpk, hT, hb⟩ := hrel
    have hpk' := Lib.hid hpk
    have hT' := Lib.hid hT
    have hown' := Lib.hid hown
    have hG0' := hb.cell (p := ⟨G, 0, none⟩) hGl.out
    rw [hG0] at hG0'
    have hG1' := hb.cell (p := ⟨G, 1, none⟩) hGl.out
    rw [hG1] at hG1'
    have hb' := Lib.hid hb
    clear hpk hT hown hb
    by_cases hlt : i < n
    · have hltI : (i : Int) < (n : Int) := by omega
      have hfm : bs.length ≤ maxLen := by have := hF.out; unfold Fits at this; simp only [maxLen]; omega
      obtain ⟨V, hV⟩ : ∃ V, (Value.slice A' i c').ownBlock = V := ⟨_, rfl⟩
      have hV' := Lib.hid hV
      clear hV
      have hVl : Hid (∀ g, V = some g → w.heap.size ≤ g ∧ g < wr.heap.size) := fun g e => own_lt hown'.out g (by rw [hV'.out, e])
      go_wp2_with (first
        | ((with_reducible refine wpl_bytes_str rfl 9 33 5 (.tmp 31) rfl ?_ ?_ ?_ bs ?_ hfm ?_); rfl; rfl; rfl; rfl; intro c5 w3 hd5 hg5;
            have hb5 : Below wr.heap.size wr w3 := (Below.refl _ _).grown hg5 (Nat.le_refl _) (fun k hk => by cases hk);
            have hown3 := own_upd hown'.out hb5;
            have o4 := own_alc hown3 (.cells #[.int .i64 kind, .int .i64 self, .int .i64 i, .int .i64 o, .int .i64 k, .slice (some ⟨wr.heap.size, 0, none⟩) bs.length c5] 35);
            have r4 := Row.new (n := 1) (sz := 6) w3 35 #[.int .i64 kind, .int .i64 self, .int .i64 i, .int .i64 o, .int .i64 k, .slice (some ⟨wr.heap.size, 0, none⟩) bs.length c5] _ rfl rfl (by decide);
            have hbw : w.heap.size ≤ w3.heap.size + 1 := Nat.le_trans hb'.out.size (Nat.le_trans hb5.size (Nat.le_succ _)))
        | (at_builtin; refine wpl_app rfl (.tmp 22) (.tmp 34) 22 rfl w.heap.size 35 _ 6 64 Try.underlying22 infoPkt rfl (by decide) (by decide) _ rfl i vs o4 _ _ 1 1 rfl _ r4 ?h1 (by omega) (by simpa using hbw) (i + 1) rfl ?h2))
      case h1 => exact ⟨rfl, rfl, rfl, rfl, rfl, rfl⟩
      case h2 =>
        intro A5 c6 w5 ho5 hg6 hz5
        have f4 : Fr (fun g => V = some g) w3 (w3.alloc (.cells #[.int .i64 kind, .int .i64 self, .int .i64 i, .int .i64 o, .int .i64 k, .slice (some ⟨wr.heap.size, 0, none⟩) bs.length c5] 35)) := (Fr.refl _ w3).alloc _
        have f5 : Fr (fun g => V = some g) (w3.alloc (.cells #[.int .i64 kind, .int .i64 self, .int .i64 i, .int .i64 o, .int .i64 k, .slice (some ⟨wr.heap.size, 0, none⟩) bs.length c5] 35)) w5 := (Fr.refl _ _).grown hg6 (fun g h => .inl (by rw [← hV'.out]; exact h))
        have f35 := Lib.hid (f4.trans f5 (fun g h => .inl h))
        have hd := Lib.hid hd5
        have fr3 : Hid (Fr (fun g => V = some g) wr w3) := Fr.of_below hb5
        clear o4 r4 f4 f5 hg6 hd5 hg5 hown3 hb5 hbw hfm
        go_wp2_with fail
        go_roundw
        case rel =>
          have k1 := fr3.out.size
          have k2 := f35.out.size
          have k3 := hd.out.lt
          have k4 := hb'.out.size
          refine ⟨i + 1, A5, c6, _, fun g => T g ∨ g = wr.heap.size, by omega, by go_num, rfl, ho5, ?_, fun g hg => ?_, hb'.out.trans ((fr3.out.trans f35.out (fun g h => .inl h)).below (fun g e => (hVl.out g e).1) k4)⟩
          · rw [all_take hlt]
            refine PksIs.snoc (m := ⟨kind, self, i, o, k, bs⟩) (s := .slice (some ⟨wr.heap.size, 0, none⟩) bs.length c5) ?_ ?_
            · exact ⟨_, _, _, rfl, (hd.out.rd.fr f35.out (fun g hg e => by have := (hVl.out g e).2; omega)).mono (fun g _ h => .inr h)⟩
            · exact ((hpk'.out.fr (fr3.out.trans f35.out (fun g h => .inl h)) (fun g hg e => (hT'.out g hg).2.2 (by rw [hV'.out, e])))).mono (fun g _ h => .inl h)
          · refine ⟨?_, ?_, fun e => ?_⟩
            · rcases hg with hg | hg
              · exact (hT'.out g hg).1
              · omega
            · rcases hg with hg | hg
              · have := (hT'.out g hg).2.1; omega
              · omega
            · rcases hz5 with h | h
              · rw [h] at e
                rcases hg with hg | hg
                · exact (hT'.out g hg).2.2 e
                · have := (hVl.out g (by rw [← hV'.out]; exact e)).2; omega
              · rw [h] at e
                have e' : w3.heap.size + 1 = g := by simpa using e
                rcases hg with hg | hg
                · have := (hT'.out g hg).2.1; omega
                · omega
        case measure => simp [intOf]; omega
    · have hltI : ¬ (i : Int) < (n : Int) := by omega
      have hin : Hid (i = n) := by show _ = _; omega
      go_wp2_with fail
      go_ret
      refine ⟨A', c', ?_, ⟨vs, ?_, ?_⟩, hb'.out⟩
      · rw [← hin.out]; rfl
      · rw [← hin.out]; exact (own_row hown'.out).mono (fun g _ h => (own_lt hown'.out g h).1)
      · have := hpk'.out
        rw [hin.out, List.take_of_length_le (by rw [Bra.all_length]; exact Nat.le_refl _)] at this
        exact this.mono (fun g _ h => (hT'.out g h).1)
end Go.Proofs.Ytplijfgjdlghbaa

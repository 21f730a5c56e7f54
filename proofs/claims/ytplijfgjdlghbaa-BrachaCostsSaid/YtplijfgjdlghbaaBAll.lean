/-
  What a process sends to all.
-/
import Derived.Test.YtplijfgjdlghbaaBFn
import Derived.Test.YtplijfgjdlghbaaOrdS
namespace Go.Proofs.Ytplijfgjdlghbaa
open Go.RowKit Go.Pl
theorem infoPkt : (Try.prog.info? 35).map (fun i => (i.zero, i.size, i.bytes)) = some (some (.agg #[.int .i64 0, .int .i64 0, .int .i64 0, .int .i64 0, .int .i64 0, .slice none 0 0]), 6, 64) := by kernel_rfl
theorem fr_tr (F : Nat → Prop) : ∀ a b c, Fr F a b → Fr F b c → Fr F a c := fun _ _ _ h1 h2 => h1.trans h2 (fun _ h => .inl h)
theorem all_take {n self : Nat} {kind o k : Int} {bs : List UInt8} {i : Nat} (h : i < n) : (Bra.all n self kind o k bs).take (i + 1) = (Bra.all n self kind o k bs).take i ++ [⟨kind, self, i, o, k, bs⟩] := by
  rw [List.take_succ_eq_append_getElem (by simp [Bra.all]; exact h)]
  simp [Bra.all]
set_option maxRecDepth 100000 in
set_option maxHeartbeats 2000000 in
theorem all_any {w : World} {G n self : Nat} {A : Option Addr} {ln c : Nat} {bs : List UInt8} (hG0 : w.cell? ⟨G, 0, none⟩ = some (.int .i64 n)) (hG1 : w.cell? ⟨G, 1, none⟩ = some (.int .i64 self)) (hn : n ≤ 64) (hr : Rd w (fun _ => True) A ln c bs) (hf : Fits bs) (kind o k : Int) :
    Calls Try.prog 29 #[.pointer (some ⟨G, 0, none⟩), .int .i64 kind, idv o k, .slice A ln c] w fun e w' =>
      ∃ A' c', e = .returned (.slice A' n c') ∧ RdP w' (fun i => w.heap.size ≤ i) A' n c' (Bra.all n self kind o k bs) ∧ Below w.heap.size w w' := by
  have hGl0 : G < w.heap.size := World.block_lt_of_cell? w _ hG0
  have hGl := Lib.hid hGl0
  have hR : Hid (Rd w (fun i => i < w.heap.size) A ln c bs) := hr.mono (fun i hi _ => hi)
  have hF := Lib.hid hf
  clear hr hf
  unfold idv
  go_enter Try.func29, Try.ntmps29
  go_wp2_with fail
  clear hGl0
  go_loopw [9, 15] (fun t9 t15 wr => ∃ (i : Nat) (A' : Option Addr) (c' : Nat) (vs : List Value) (T : Nat → Prop), i ≤ n ∧ t15 = .int .i64 i ∧ t9 = .slice A' i c' ∧ wr.ownsRow w.heap.size 35 6 (.slice A' i c') i vs ∧
      PksIs wr T ((Bra.all n self kind o k bs).take i) vs ∧ (∀ g, T g → w.heap.size ≤ g ∧ g < wr.heap.size ∧ (Value.slice A' i c').ownBlock ≠ some g) ∧ Blk wr w.heap.size 73 #[.int .i64 o, .int .i64 k] ∧ Below w.heap.size w wr) (fun _ t15 _ => n - (intOf t15).toNat)
  case atStart => exact ⟨0, none, 0, [], fun _ => False, by omega, rfl, rfl, ⟨rfl, .inl ⟨rfl, rfl⟩⟩, by simp [PksIs], fun _ h => h.elim, Blk.new' rfl, (Below.refl _ _).alloc (Nat.le_refl _) _⟩
  case round =>
    obtain ⟨i, A', c', vs, T, hi, rfl, rfl, hown, hpk, hT, hB, hb⟩ := hrel
    have hpk' := Lib.hid hpk
    have hT' := Lib.hid hT
    have hown' := Lib.hid hown
    clear hpk hT
    by_cases hlt : i < n
    · have hltI : (i : Int) < (n : Int) := by omega
      obtain ⟨V, hV⟩ : ∃ V, (Value.slice A' i c').ownBlock = V := ⟨_, rfl⟩
      have hV' := Lib.hid hV
      have hVw : Hid (∀ g, V = some g → w.heap.size ≤ g) := fun g e => ((own_lt hown g (by rw [hV, e]))).1
      have hVb : Hid (V ≠ some w.heap.size) := by show _ ≠ _; rw [← hV]; exact own_blk_ne hown hB (by decide)
      have hBl := Lib.hid hB.lt
      have cG : ∀ w', Fr (fun g => V = some g) wr.drew w' → w'.cell? ⟨G, 1, none⟩ = some (.int .i64 self) := fun w' h => ((h.cell (p := ⟨G, 1, none⟩) (Nat.lt_of_lt_of_le hGl.out hb.size) (fun e => by have := hVw.out G e; have := hGl.out; omega)).trans (hb.cell (p := ⟨G, 1, none⟩) hGl.out)).trans hG1
      have c0 : ∀ w', Fr (fun g => V = some g) wr.drew w' → w'.cell? ⟨w.heap.size, 0, none⟩ = some (.int .i64 o) := fun w' h => (h.cell (p := ⟨w.heap.size, 0, none⟩) hBl.out hVb.out).trans (hB.cell 0)
      have c1 : ∀ w', Fr (fun g => V = some g) wr.drew w' → w'.cell? ⟨w.heap.size, 1, none⟩ = some (.int .i64 k) := fun w' h => (h.cell (p := ⟨w.heap.size, 1, none⟩) hBl.out hVb.out).trans (hB.cell 1)
      have hbd : Below w.heap.size w wr.drew := hb.trans ((ab_drew wr).mono hb.size)
      have hown2 : Hid (wr.drew.ownsRow w.heap.size 35 6 (.slice A' i c') i vs) := own_fr hown (Fr.refl (fun _ => False) wr).drew (fun _ _ h => h)
      have hpk2 : Hid (PksIs wr.drew T ((Bra.all n self kind o k bs).take i) vs) := hpk'.out.fr (Fr.refl (fun _ => False) wr).drew (fun _ _ h => h)
      have hB2 : Hid (Blk wr.drew w.heap.size 73 #[.int .i64 o, .int .i64 k]) := hB
      have hT2 : Hid (∀ g, T g → w.heap.size ≤ g ∧ g < wr.drew.heap.size ∧ V ≠ some g) := fun g hg => by rw [← hV]; exact hT'.out g hg
      have hVb' := Lib.hid hVb
      have hVl : Hid (∀ g, V = some g → g < wr.drew.heap.size) := fun g e => ((own_lt hown g (by rw [hV, e]))).2
      clear hpk' hT' hown' hown hB hb hBl hV hVb
      go_wp2_with fail
      refine wp_region_plan (Fr (fun g => V = some g)) (Fr.refl _) (fr_tr _) [([0, 1, 2, 3, 4, 5, 6, 7, 8, 9, 10, 11], 12), ([], 13), ([], 14), ([], 15)] [16] (by kernel_rfl) (by kernel_rfl) (fun _ _ _ _ _ h => h) ?_
      simp only [wpPlan, ordPick, Option.toList_some, List.cons_append, List.nil_append, List.getElem?_cons_succ, List.getElem?_cons_zero]
      generalize wr.drew = w2 at cG c0 c1 hbd hown2 hpk2 hB2 hT2 hVl ⊢
      iterate 5 (go_big_quiet_step (exact fun _ => rfl))
      refine wpq_load_one rfl 3 (.tmp 22) rfl ⟨G, 1, none⟩ rfl _ cG _ Try.underlying3 rfl ?_
      simp only [Act.put, List.setIfInBounds_toArray, List.set_cons_succ, List.set_cons_zero]
      iterate 2 (go_big_quiet_step (exact fun _ => rfl))
      refine wpq_load_one rfl 3 (.tmp 25) rfl ⟨w.heap.size, 0, none⟩ rfl _ c0 _ Try.underlying3 rfl ?_
      simp only [Act.put, List.setIfInBounds_toArray, List.set_cons_succ, List.set_cons_zero]
      iterate 1 (go_big_quiet_step (exact fun _ => rfl))
      refine wpq_load_one rfl 3 (.tmp 27) rfl ⟨w.heap.size, 1, none⟩ rfl _ c1 _ Try.underlying3 rfl ?_
      simp only [Act.put, List.setIfInBounds_toArray, List.set_cons_succ, List.set_cons_zero]
      iterate 1 (go_big_quiet_step (exact fun _ => rfl))
      refine wpQuiet_nil ?_
      clear cG c0 c1
      go_wp2_with fail
      refine (clone_any (hR.out.fr (Fr.of_below (F := fun i => w.heap.size ≤ i) (hbd.mono (Nat.le_refl _))) (fun i h => by omega)) hF.out).mono ?_
      rintro e w3 ⟨v, rfl, hv, hb3⟩
      obtain ⟨A3, n3, c3, rfl, hr3⟩ := hv
      have hown3 := own_upd hown2.out hb3
      have f3 : Fr (fun g => V = some g) w2 w3 := Fr.of_below hb3
      have hpk3 : Hid (PksIs w3 (fun g => T g ∨ (w2.heap.size ≤ g ∧ g < w3.heap.size)) ((Bra.all n self kind o k bs).take i) vs) := (hpk2.out.fr f3 (fun g hg => (hT2.out g hg).2.2)).mono (fun _ _ h => .inl h)
      have hs3 : Hid (SlIs w3 (fun g => T g ∨ (w2.heap.size ≤ g ∧ g < w3.heap.size)) (.slice A3 n3 c3) bs) := ⟨_, _, _, rfl, hr3.mono (fun g hl hg => .inr ⟨hg, hl⟩)⟩
      have hsz3 : Hid (w2.heap.size ≤ w3.heap.size) := hb3.size
      have hB3 : Hid (Blk w3 w.heap.size 73 #[.int .i64 o, .int .i64 k]) := hB2.out.below hb3 hB2.out.lt
      have hbb3 : Below w.heap.size w w3 := hbd.trans (hb3.mono hbd.size)
      have hT3 : Hid (∀ g, T g → w.heap.size ≤ g ∧ g < w2.heap.size ∧ V ≠ some g) := hT2
      have hd : Hid (∀ g, (T g ∨ (w2.heap.size ≤ g ∧ g < w3.heap.size)) → V ≠ some g) := fun g hg e => by
        rcases hg with hg | hg
        · exact (hT2.out g hg).2.2 e
        · have := hVl.out g e; omega
      have hwl : Hid (w.heap.size ≤ w2.heap.size) := hbd.size
      have o4 := own_alc hown3 (.cells #[.int .i64 kind, .int .i64 self, .int .i64 i, .int .i64 o, .int .i64 k, .slice A3 n3 c3] 35)
      have r4 := Row.new (n := 1) (sz := 6) w3 35 #[.int .i64 kind, .int .i64 self, .int .i64 i, .int .i64 o, .int .i64 k, .slice A3 n3 c3] _ rfl rfl (by decide)
      have f4 : Fr (fun g => V = some g) w3 (w3.alloc (.cells #[.int .i64 kind, .int .i64 self, .int .i64 i, .int .i64 o, .int .i64 k, .slice A3 n3 c3] 35)) := (Fr.refl _ w3).alloc _
      clear hown2 hpk2 hB2 hT2 hb3 hr3 hbd hown3
      go_wp2_with fail
      refine And.intro f3 (wpQuiet_nil ?_)
      clear f3
      go_wp2_with fail
      refine And.intro (Fr.refl _ _) (wpQuiet_nil ?_)
      go_wp2_with fail
      refine And.intro f4 (wpQuiet_nil ?_)
      go_wp2_with (at_builtin; refine wpl_app rfl (.tmp 18) (.tmp 32) 22 rfl w.heap.size 35 _ 6 64 Try.underlying22 infoPkt rfl (by decide) (by decide) _ rfl i vs o4 _ _ 1 1 rfl _ r4 ?h1 (by omega) (Nat.le_trans hbb3.size f4.size) (i + 1) rfl ?h2)
      case h1 =>
        intro u hu
        simp only [List.mem_cons, List.not_mem_nil, or_false] at hu
        rcases hu with rfl | rfl | rfl | rfl | rfl | rfl <;> rfl
      case h2 =>
        intro A5 c5 w5 ho5 hg5 hz5
        have f5 : Fr (fun g => V = some g) (w3.alloc (.cells #[.int .i64 kind, .int .i64 self, .int .i64 i, .int .i64 o, .int .i64 k, .slice A3 n3 c3] 35)) w5 := (Fr.refl _ _).grown hg5 (fun g h => .inl (by rw [← hV'.out]; exact h))
        have f35 := f4.trans f5 (fun g h => .inl h)
        clear o4 r4 f4 hg5
        go_wp2_with fail
        refine And.intro f5 ?_
        clear f5
        dsimp only
        iterate 1 (go_big_quiet_step (exact fun _ => rfl))
        refine wpQuiet_nil ?_
        go_wp2_with fail
        go_roundw
        case rel =>
          refine ⟨i + 1, A5, c5, _, fun g => T g ∨ (w2.heap.size ≤ g ∧ g < w3.heap.size), by omega, by go_num, rfl, ho5, ?_, fun g hg => ?_, hB3.out.fr f35 (fun e => ?_), hbb3.trans (f35.below (fun g e => hVw.out g e) hbb3.size)⟩
          · rw [all_take hlt]
            refine PksIs.snoc (m := ⟨kind, self, i, o, k, bs⟩) (s := .slice A3 n3 c3) ?_ ?_
            · exact hs3.out.fr f35 hd.out
            · exact hpk3.out.fr f35 hd.out
          · have k1 := f35.size
            have k2 := hsz3.out
            have k3 := hwl.out
            refine ⟨?_, ?_, fun e => ?_⟩
            · rcases hg with hg | hg
              · exact (hT3.out g hg).1
              · omega
            · rcases hg with hg | hg
              · have := (hT3.out g hg).2.1; omega
              · omega
            · rcases hz5 with h | h
              · rw [h, hV'.out] at e
                exact hd.out g hg e
              · rw [h] at e
                have e' : w3.heap.size + 1 = g := by simpa using e
                rcases hg with hg | hg
                · have := (hT3.out g hg).2.1; omega
                · omega
          · exact hVb'.out e
        case measure => simp [intOf]; omega
    · have hltI : ¬ (i : Int) < (n : Int) := by omega
      have hin : Hid (i = n) := by show _ = _; omega
      go_wp2_with fail
      go_ret
      refine ⟨A', c', ?_, ⟨vs, ?_, ?_⟩, hb⟩
      · rw [← hin.out]; rfl
      · rw [← hin.out]; exact (own_row hown'.out).mono (fun g _ h => (own_lt hown'.out g h).1)
      · have := hpk'.out
        rw [hin.out, List.take_of_length_le (by rw [Bra.all_length]; exact Nat.le_refl _)] at this
        exact this.mono (fun g _ h => (hT'.out g h).1)
end Go.Proofs.Ytplijfgjdlghbaa

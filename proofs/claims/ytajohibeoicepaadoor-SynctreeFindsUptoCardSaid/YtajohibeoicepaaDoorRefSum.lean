/-
  The reference's digest.
-/
import Derived.Test.YtajohibeoicepaaDoorPad
namespace Go.Proofs.YtajohibeoicepaaDoor
open Go.RowKit Go.Pl
set_option maxRecDepth 100000 in
set_option maxHeartbeats 4000000 in
theorem refsum_any {A : Option Addr} {n c : Nat} {bs : List UInt8} (w : World) (hA : Rd w (fun _ => True) A n c bs) (hl : bs.length ≤ 70368744177664) :
    Calls Tryd.prog 40 #[.slice A n c] w fun e w' => e = .returned (.string ⟨(Sha.sha bs).toArray⟩) ∧ Below w.heap.size w w' := by
  have hA' : Rd w (fun i => i < w.heap.size) A n c bs := hA.mono (fun i hi _ => hi)
  go_enter Tryd.func40, Tryd.ntmps40
  go_wp2_with (first
    | ((with_reducible refine wpl_build _ rfl 76 _ rfl (.agg (st Sha.init)) ?_ ?_); kernel_rfl)
    | ((with_reducible refine wpl_store_new _ rfl 76 (.tmp 3) (.tmp 9) rfl w.heap.size ?_ (st Sha.init) ?_ 76 _ (Blk.new' rfl) ?_ ?_ (st_one _) ?_); rfl; rfl; kernel_rfl; rfl; intro w1 hb1 hg1;
          have hf1 : Fr (fun _ => False) w w1 := ((Fr.refl (fun _ => False) w).alloc _).grown hg1 (fun g h => .inr (Nat.le_of_eq (Option.some.inj h)));
          have hA1 := (hA.fr hf1 (fun _ _ h => h)))
    | (go_at_call 55; refine (padded_any w1 hA1 hl).mono ?_; rintro e w2 ⟨R, cR, rfl, ho2, hbel2⟩;
          have hb2 := hb1.below hbel2 hb1.lt))
  have hEl : (Sha.pad bs).length ≤ 70368744177800 := by
    have h := Sha.length_tail bs bs.length
    have : Sha.zeros bs.length < 64 := by unfold Sha.zeros; omega
    show (Sha.tail bs bs.length).length ≤ _
    omega
  have hEm : Hid ((Sha.pad bs).length % 64 = 0) := Sha.tail_mod _ _
  have hsha : Hid (Sha.sha bs = Sha.out (Sha.blocks ((Sha.pad bs).length / 64) Sha.init (Sha.pad bs))) := rfl
  generalize Sha.pad bs = E at *
  obtain ⟨G, hG⟩ : ∃ G, w.heap.size = G := ⟨_, rfl⟩
  have hf2 : Fr (fun _ => False) w w2 := hf1.trans (G := fun _ => False) (Fr.of_below hbel2) (fun _ h => h.elim)
  have rdE : Rd w2 (fun i => i ≠ G) R E.length cR E := (own_rd ho2).mono (fun i _ h => by have := own_base ho2 h; have := hb1.lt; omega)
  rw [hG] at hb2
  rw [hG]
  have hG' : Hid (w.heap.size = G) := hG
  clear hG
  go_loopw [5] (fun t wr => ∃ j : Nat, t = .int .i64 (64 * (j : Int)) ∧ 64 * j ≤ E.length ∧ Rd wr (fun i => i ≠ G) R E.length cR E ∧ Blk wr G 76 (st (Sha.blocks j Sha.init E)) ∧ Fr (fun _ => False) w wr) (fun t _ => E.length - (intOf t).toNat)
  case atStart => exact ⟨0, rfl, by omega, rdE, hb2, hf2⟩
  case round =>
    obtain ⟨j, rfl, hj, hrd3, hb3', hfr3⟩ := hrel
    by_cases hpos : 64 * j < E.length
    · have h64 : 64 * j + 64 ≤ E.length := by have := hEm.out; omega
      have hc3 := hrd3.le
      obtain ⟨U, hU'⟩ : ∃ U, U = Sha.blocks j Sha.init E := ⟨_, rfl⟩
      rw [← hU'] at hb3'
      have hU : Hid (U = Sha.blocks j Sha.init E) := hU'
      clear hU'
      obtain ⟨D, hD'⟩ : ∃ D, D = (E.drop (64 * j)).take 64 := ⟨_, rfl⟩
      have hD : Hid (D = (E.drop (64 * j)).take 64) := hD'
      clear hD'
      obtain ⟨X, hX'⟩ : ∃ X, X = Sha.compress U D := ⟨_, rfl⟩
      have hX : Hid (X = Sha.compress U D) := hX'
      clear hX'
      have hpr : G < wr.drew.heap.size := hb3'.lt
      have hall' : ∀ w', (∃ n, w' = wr.drewN n) → Blk w' G 76 (st U) := fun w' ⟨n, e⟩ => e ▸ hb3'.drewN n
      have hl64 : D.length = 64 := by rw [hD.out]; simp only [List.length_take, List.length_drop]; omega
      have hby' := ((hrd3.fr ((Fr.refl (fun _ => False) wr).drew) (fun _ _ h => h)).mid (l := 64 * j) (k := 64 * j + 64) (by omega) h64).all
      rw [show 64 * j + 64 - 64 * j = 64 by omega, ← hD.out] at hby'
      have hk1 : Hid (64 * (j : Int) = ((64 * j : Nat) : Int)) := by show _ = _; omega
      have hk2 : Hid (64 * (j : Int) + 64 = ((64 * j + 64 : Nat) : Int)) := by show _ = _; omega
      have hk3 : 64 * j + 64 ≤ cR := by omega
      go_wp2_with fail
      refine wp_region_ord [1, 2, 3, 4, 5] [0] [6, 7] (by kernel_rfl) (by kernel_rfl) (fun _ _ _ _ _ h => h) ?_
      simp only [ordPick, Option.toList_some, List.cons_append, List.nil_append, List.getElem?_cons_succ, List.getElem?_cons_zero]
      repeat (first | ((with_reducible refine wpq_slice_mid rfl 23 (.tmp 19) (.tmp 20) (.tmp 22) rfl 5 ?_ ?_ R E.length cR ?_ .i64 .i64 (64 * j) (64 * j + 64) ?_ ?_ ?_ hk3 ?_); rfl; kernel_rfl; rfl; exact congrArg _ hk1.out; exact congrArg _ hk2.out; exact Nat.le_add_right _ _) | go_big_quiet_step (fail))
      refine wpQuiet_nil ?_
      repeat (first | ((with_reducible refine wpq_load_part rfl 76 (.tmp 3) rfl G 0 rfl 76 _ hall' (st U) rfl _ rfl rfl ?_ ?_); kernel_rfl) | go_big_quiet_step (fail))
      refine wpQuiet_nil ?_
      go_wp2_with (first
        | (go_at_call 56; refine (refblock_any U D hl64 _ _ hby').mono ?_; rw [← hX.out]; rintro e w8 ⟨rfl, hbel8⟩; have b8 := hb3'.drew.below hbel8 hpr)
        | ((with_reducible refine wpl_store_new _ rfl 76 (.tmp 3) (.tmp 24) rfl G ?_ (st X) ?_ 76 _ b8 ?_ ?_ (st_one _) ?_); rfl; rfl; kernel_rfl; rfl; intro w9 b9 hg9;
              have hf9 := (((Fr.refl (fun i => i = G) wr).drew.trans (G := fun _ => False) (Fr.of_below hbel8) (fun _ h => h.elim)).grown hg9 (fun g h => .inl (Option.some.inj h).symm))))
      go_roundw
      case rel =>
        refine ⟨j + 1, by go_num, by omega, hrd3.fr hf9 (fun i hi h => hi h), ?_, hfr3.trans hf9 (fun i h => .inr (by have := hG'.out; omega))⟩
        rw [blocks_succ, ← hU.out, ← hD.out, ← hX.out]; exact b9
      case measure => simp [intOf]; omega
    · obtain ⟨V, hV'⟩ : ∃ V, V = Sha.blocks j Sha.init E := ⟨_, rfl⟩
      rw [← hV'] at hb3'
      have hV : Hid (V = Sha.blocks j Sha.init E) := hV'
      clear hV'
      have hout : Hid (Sha.sha bs = Sha.out V) := by
        show _ = _
        rw [hsha.out, hV.out, show E.length / 64 = j by omega]
      clear hsha
      go_wp2_with fail
      go_loopw [6, 7] (fun t7 t57 wr4 => ∃ k4 A4 c4, k4 ≤ 8 ∧ t7 = .slice A4 (4 * k4) c4 ∧ t57 = .int .i64 (k4 : Int) ∧ wr4.ownsRow (G + 1) 5 1 (.slice A4 (4 * k4) c4) (4 * k4) (((V.toList.take k4).flatMap Sha.bytesOf).map u8v) ∧ Blk wr4 G 76 (st V) ∧ Fr (fun _ => False) w wr4) (fun _ t57 _ => 8 - (intOf t57).toNat)
      case atStart => exact ⟨0, none, 0, by omega, rfl, rfl, ⟨rfl, .inl ⟨rfl, rfl⟩⟩, hb3', hfr3⟩
      case round =>
        obtain ⟨k4, A4, c4, hk4, rfl, rfl, hor4, hbk, hfr4⟩ := hrel
        by_cases hlt4 : k4 < 8
        · obtain ⟨x, hx'⟩ : ∃ x, x = nth8 V k4 := ⟨_, rfl⟩
          have hget : wr.cell? ⟨G, k4, none⟩ = some (.int .u32 (n32 x)) := by rw [hx']; exact (hbk.cell k4).trans (st_get V k4 hlt4)
          obtain ⟨O, hO'⟩ : ∃ O, O = (V.toList.take k4).flatMap Sha.bytesOf := ⟨_, rfl⟩
          have hOl : O.length = 4 * k4 := by rw [hO']; exact out_take_length V k4 hk4
          have hO2 : Hid ((V.toList.take (k4 + 1)).flatMap Sha.bytesOf = O ++ Sha.bytesOf x) := by show _ = _; rw [out_take V k4 hlt4, ← hO', ← hx']
          rw [← hO'] at hor4
          clear hO' hx'
          obtain ⟨y0, hy0'⟩ : ∃ y, y = UInt8.ofBitVec ((x >>> 24).setWidth 8) := ⟨_, rfl⟩
          obtain ⟨y1, hy1'⟩ : ∃ y, y = UInt8.ofBitVec ((x >>> 16).setWidth 8) := ⟨_, rfl⟩
          obtain ⟨y2, hy2'⟩ : ∃ y, y = UInt8.ofBitVec ((x >>> 8).setWidth 8) := ⟨_, rfl⟩
          obtain ⟨y3, hy3'⟩ : ∃ y, y = UInt8.ofBitVec (x.setWidth 8) := ⟨_, rfl⟩
          have hby : Hid (Sha.bytesOf x = [y0, y1, y2, y3]) := by show _ = _; rw [hy0', hy1', hy2', hy3']; rfl
          have hy0 := hy0'.symm
          have hy1 := hy1'.symm
          have hy2 := hy2'.symm
          have hy3 := hy3'.symm
          clear hy0' hy1' hy2' hy3'
          have or4 : (wr.alloc (.cells #[.int .u8 (y0.toNat : Int), .int .u8 (y1.toNat : Int), .int .u8 (y2.toNat : Int), .int .u8 (y3.toNat : Int)] 5)).ownsRow (G + 1) 5 1 (.slice A4 (4 * k4) c4) O.length (O.map u8v) := by rw [hOl]; exact own_new hor4 _
          have br4 := bytes_alloc wr 5 [y0, y1, y2, y3] #[.int .u8 (y0.toNat : Int), .int .u8 (y1.toNat : Int), .int .u8 (y2.toNat : Int), .int .u8 (y3.toNat : Int)] rfl (by simp [maxLen])
          have fr4 := hfr4.alloc (.cells #[.int .u8 (y0.toNat : Int), .int .u8 (y1.toNat : Int), .int .u8 (y2.toNat : Int), .int .u8 (y3.toNat : Int)] 5)
          have hl4 : (O ++ [y0, y1, y2, y3]).length = 4 * (k4 + 1) := by simp [hOl]; omega
          have hs4 : O.length + [y0, y1, y2, y3].length ≤ 140737488355328 := by simp [hOl]; omega
          clear hOl
          have hGs : G + 1 ≤ (wr.alloc (.cells #[.int .u8 (y0.toNat : Int), .int .u8 (y1.toNat : Int), .int .u8 (y2.toNat : Int), .int .u8 (y3.toNat : Int)] 5)).heap.size := (hbk.alloc _).lt
          go_wp2_with (first
            | ((with_reducible refine wpl_append_sl _ rfl (.tmp 32) (.tmp 44) 23 rfl (G + 1) 5 ?_ ?_ _ ?_ O or4 _ _ ?_ [y0, y1, y2, y3] br4 hs4 hGs (4 * (k4 + 1)) hl4 ?_); rfl; kernel_rfl; rfl; rfl; intro R6 c6 w6 ho6 hg6 hb6))
          go_roundw
          case rel =>
            refine ⟨k4 + 1, R6, c6, hlt4, rfl, by go_num, ?_, (hbk.alloc _).grown hg6 (fun e => by have := own_base or4 e.symm; omega), fr4.grown hg6 (fun g h => .inr (by have := own_base or4 h; have := hG'.out; omega))⟩
            rw [hO2.out, hby.out]; exact ho6
          case measure => simp [intOf]; omega
        · have hk8' : Hid (k4 = 8) := show k4 = 8 by omega
          have hbo : Bytes wr wr.heap.size (.slice A4 (4 * k4) c4) (Sha.sha bs) := by
            have e : (V.toList.take k4).flatMap Sha.bytesOf = Sha.sha bs := by rw [hout.out, hk8'.out]; rfl
            rw [e] at hor4
            exact (own_rd hor4).all
          go_wp2_with ((with_reducible refine wpl_string_bytes _ rfl 23 9 5 (.tmp 46) rfl ?_ ?_ ?_ wr.heap.size _ ?_ _ hbo ?_); rfl; rfl; rfl; rfl)
          go_ret
          exact ⟨rfl, hfr4.below (fun _ h => h.elim) (Nat.le_refl _)⟩
end Go.Proofs.YtajohibeoicepaaDoor

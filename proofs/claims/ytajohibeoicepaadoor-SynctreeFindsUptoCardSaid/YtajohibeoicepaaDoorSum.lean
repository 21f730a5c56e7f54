/-
  The digest of a state.
-/
import Derived.Test.YtajohibeoicepaaDoorNew
namespace Go.Pl
/-- New bytes, as a slice. -/
theorem bytes_alloc (w : World) (e : TypeId) (xs : List UInt8) (cs : Array Value) (hcs : cs.toList = xs.map u8v) (hm : xs.length ≤ maxLen) :
    Bytes (w.alloc (.cells cs e)) (w.alloc (.cells cs e)).heap.size (.slice (some ⟨w.heap.size, 0, none⟩) xs.length xs.length) xs :=
  bytes_of_own (own_alloc w (Nat.zero_le _) e xs cs hcs rfl hm)
theorem own_new {w : World} {base : Nat} {e : TypeId} {size n : Nat} {v : Value} {xs : List Value} (h : w.ownsRow base e size v n xs) (o : Obj) : (w.alloc o).ownsRow base e size v n xs :=
  own_fr h ((Fr.refl (fun _ => False) w).alloc o) (fun _ _ h => h)
theorem wrap_u32_u8 (x : BitVec 32) : IntKind.u8.wrap (n32 x) = ((UInt8.ofBitVec (x.setWidth 8)).toNat : Int) := by
  have h : (UInt8.ofBitVec (x.setWidth 8)).toNat = x.toNat % 256 := by simp [BitVec.toNat_setWidth]
  rw [h, IntKind.wrap_u8]
  unfold n32
  omega
@[go_sem high] theorem convert_u32_u8 {P : Program} (w : World) (src dst : TypeId) (x : BitVec 32) (hs : (P.underlying src).isSome = true)
    (hd : P.underlying dst = some (.int .u8)) : (convert src dst (.int .u32 (n32 x))).run P w = .ok (.int .u8 ((UInt8.ofBitVec (x.setWidth 8)).toNat : Int)) w := by
  obtain ⟨d, hd'⟩ := Option.isSome_iff_exists.mp hs
  simp [convert, run_underlying hd', run_underlying hd, Conv.intToInt, wrap_u32_u8]
theorem out_take (V : Sha.S8) (k : Nat) (h : k < 8) : (V.toList.take (k + 1)).flatMap Sha.bytesOf = (V.toList.take k).flatMap Sha.bytesOf ++ Sha.bytesOf (nth8 V k) := by
  match k, h with
  | 0, _ => rfl
  | 1, _ => rfl
  | 2, _ => rfl
  | 3, _ => rfl
  | 4, _ => rfl
  | 5, _ => rfl
  | 6, _ => rfl
  | 7, _ => rfl
theorem out_take_length (V : Sha.S8) (k : Nat) (h : k ≤ 8) : ((V.toList.take k).flatMap Sha.bytesOf).length = 4 * k := by
  match k, h with
  | 0, _ => rfl
  | 1, _ => rfl
  | 2, _ => rfl
  | 3, _ => rfl
  | 4, _ => rfl
  | 5, _ => rfl
  | 6, _ => rfl
  | 7, _ => rfl
  | 8, _ => rfl
theorem be64_take (n k : Nat) (h : k < 8) : (Sha.be64 n).take (k + 1) = (Sha.be64 n).take k ++ [UInt8.ofNat (n >>> (56 - 8 * k))] := by
  rw [List.take_add_one]
  congr 1
  simp [Sha.be64, h]
theorem be64_byte (n k : Nat) : ((n : Int) * 8 / 2 ^ (56 - 8 * k)) % 256 = ((UInt8.ofNat ((8 * n) >>> (56 - 8 * k))).toNat : Int) := by
  rw [UInt8.toNat_ofNat', Nat.shiftRight_eq_div_pow, Nat.mul_comm 8 n]
  simp
end Go.Pl
namespace Go.Proofs.YtajohibeoicepaaDoor
open Go.RowKit Go.Pl
set_option maxRecDepth 100000 in
set_option maxHeartbeats 4000000 in
theorem sumst_any {B p : Nat} {m : List UInt8} {r : Option Nat} (w : World) (hK : Kst w) (hS : StateAt w B p m r) (hl : m.length ≤ 70368744177664) :
    Calls Tryd.prog 52 #[.pointer (some ⟨p, 0, none⟩)] w fun e w' => e = .returned (.string ⟨(Sha.sha m).toArray⟩) ∧ Below w.heap.size w w' := by
  obtain ⟨hBp, v, hr, hblk, hown⟩ := hS
  obtain ⟨R, cr, rfl, hrd, hR⟩ := own_slice hown
  have hR' : Hid (R = _) := hR
  clear hR
  have hLm : (Sha.rest m).length < 64 := by rw [Sha.length_rest]; omega
  have hsha := Sha.sha_eq m
  generalize hq : Sha.rest m = q at *
  generalize hu : Sha.words m = u at *
  have d8 : w.cell? ⟨p, 8, none⟩ = some (.slice R q.length cr) := (hblk.cell 8).trans rfl
  have hpw : p < w.heap.size := hblk.lt
  have o1 := own_alloc w (Nat.le_refl _) 5 [] #[] rfl rfl (by decide)
  have f1 : Fr (fun _ => False) w (w.alloc (.cells #[] 5)) := (Fr.refl (fun _ => False) w).alloc _
  have b1 : Bytes (w.alloc (.cells #[] 5)) (w.alloc (.cells #[] 5)).heap.size (.slice R q.length cr) q := (hrd.fr f1 (fun _ _ h => h)).all
  go_enter Tryd.func52, Tryd.ntmps52
  go_wp2_with (first
    | ((with_reducible refine wpl_append_sl _ rfl (.tmp 10) (.tmp 14) 23 rfl w.heap.size 5 ?_ ?_ _ ?_ [] o1 _ _ ?_ q b1 (by simp; omega) f1.size q.length rfl ?_); rfl; kernel_rfl; rfl; rfl; intro R2 c2 w2 ho2 hg2 hb2;
          have f2 := f1.grown hg2 (fun g h => .inr (by have : w.heap.size = g := Option.some.inj h; omega));
          have o2 := own_new ho2 (.cells #[.int .u8 128] 5);
          have b2 := bytes_alloc w2 5 [128] #[.int .u8 128] rfl (by decide);
          have f3 := f2.alloc (.cells #[.int .u8 128] 5))
    | ((with_reducible refine wpl_append_sl _ rfl (.tmp 15) (.tmp 16) 23 rfl w.heap.size 5 ?_ ?_ _ ?_ q o2 _ _ ?_ [128] b2 (by simp; omega) f3.size (q.length + 1) (by simp) ?_); rfl; kernel_rfl; rfl; rfl; intro R3 c3 w3 ho3 hg3 hb3))
  have f4 := f3.grown hg3 (fun g h => .inr (own_base ho2 h))
  have hz := Sha.zeros_spec q.length
  have hzl : Sha.zeros q.length < 64 := by unfold Sha.zeros; omega
  have hzk : ∀ k, k < Sha.zeros q.length → (q.length + 1 + k) % 64 ≠ 56 := by intro k hk; unfold Sha.zeros at hk; omega
  generalize hZ : Sha.zeros q.length = Z at *
  go_loopw [3] (fun t wr => ∃ k A c, k ≤ Z ∧ t = .slice A (q.length + 1 + k) c ∧ wr.ownsRow w.heap.size 5 1 (.slice A (q.length + 1 + k) c) (q.length + 1 + k) ((q ++ [128] ++ List.replicate k 0).map u8v) ∧ Fr (fun _ => False) w wr) (fun t _ => q.length + 1 + Z - lenOf t)
  case atStart => exact ⟨0, R3, c3, Nat.zero_le _, rfl, by simpa using ho3, f4⟩
  case round =>
    obtain ⟨k, A, c, hk, rfl, hor, hfr⟩ := hrel
    by_cases hlt : k < Z
    · have hne := hzk k hlt
      have hne1 : ((q.length : Int) + 1 + (k : Int)) % 64 ≠ 56 := by omega
      have or1 := own_new hor (.cells #[.int .u8 0] 5)
      have br1 := bytes_alloc wr 5 [0] #[.int .u8 0] rfl (by decide)
      have fr1 := hfr.alloc (.cells #[.int .u8 0] 5)
      have hor1 : (wr.alloc (.cells #[.int .u8 0] 5)).ownsRow w.heap.size 5 1 (.slice A (q.length + 1 + k) c) (q ++ [128] ++ List.replicate k 0).length ((q ++ [128] ++ List.replicate k 0).map u8v) := by
        have e : (q ++ [128] ++ List.replicate k 0).length = q.length + 1 + k := by simp; omega
        rw [e]; exact or1
      go_wp2_with (first
        | ((with_reducible refine wpl_append_sl _ rfl (.tmp 22) (.tmp 23) 23 rfl w.heap.size 5 ?_ ?_ _ ?_ _ hor1 _ _ ?_ [0] br1 (by simp; omega) fr1.size (q.length + 1 + (k + 1)) (by simp; omega) ?_); rfl; kernel_rfl; rfl; rfl; intro R5 c5 w5 ho5 hg5 hb5))
      go_roundw
      case rel =>
        refine ⟨k + 1, R5, c5, hlt, rfl, ?_, fr1.grown hg5 (fun g h => .inr (own_base hor1 h))⟩
        rw [List.replicate_succ', ← List.append_assoc]; exact ho5
      case measure => simp [lenOf]; omega
    · have hkz : Hid (k = Z) := show k = Z by omega
      have heq1 : ((q.length : Int) + 1 + (k : Int)) % 64 = 56 := by have := hkz.out; omega
      have blkr := hblk.fr hfr (fun h => h)
      have d9 : wr.cell? ⟨p, 9, none⟩ = some (.int .i64 (m.length : Int)) := (blkr.cell 9).trans rfl
      obtain ⟨T, hT'⟩ : ∃ T : List UInt8, T = q ++ [128] ++ List.replicate Z 0 := ⟨_, rfl⟩
      have hT : Hid (T = q ++ [128] ++ List.replicate Z 0) := hT'
      clear hT'
      obtain ⟨N, hN⟩ : ∃ N, Hid (N = q.length + 1 + k) := ⟨_, rfl⟩
      have hTl : Hid (T.length = N) := show T.length = N by rw [hT.out, hN.out, hkz.out]; simp; omega
      have hN56 : (N : Int) % 64 = 56 := by have := hN.out; have := hkz.out; omega
      have hNs : N ≤ 200 := by have := hN.out; omega
      have hml : (m.length : Int) ≤ 70368744177664 := by omega
      have horT : wr.ownsRow w.heap.size 5 1 (.slice A N c) N (T.map u8v) := by rw [hT.out, hN.out, ← hkz.out]; exact hor
      rw [← hN.out]
      go_wp2_with fail
      clear hN56 heq1
      go_loopw [3, 5] (fun t3 t5 wr2 => ∃ k2 A2 c2', k2 ≤ 8 ∧ t3 = .slice A2 (N + k2) c2' ∧ t5 = .int .i64 (56 - 8 * (k2 : Int)) ∧ wr2.ownsRow w.heap.size 5 1 (.slice A2 (N + k2) c2') (N + k2) ((T ++ (Sha.be64 (8 * m.length)).take k2).map u8v) ∧ Fr (fun _ => False) w wr2) (fun t3 t5 _ => (intOf t5 + 8).toNat)
      case atStart => exact ⟨0, A, c, by omega, rfl, rfl, by simpa using horT, hfr⟩
      case round =>
        obtain ⟨k2, A2, c2', hk2, rfl, rfl, hor2, hfr2⟩ := hrel
        by_cases hlt8 : k2 < 8
        · obtain ⟨x, hx'⟩ : ∃ x : UInt8, x = UInt8.ofNat ((8 * m.length) >>> (56 - 8 * k2)) := ⟨_, rfl⟩
          have hx : (m.length : Int) * 8 / 2 ^ (56 - 8 * k2) % 256 = (x.toNat : Int) := by rw [hx']; exact be64_byte _ _
          have htk : Hid ((Sha.be64 (8 * m.length)).take (k2 + 1) = (Sha.be64 (8 * m.length)).take k2 ++ [x]) := by show _ = _; rw [be64_take _ _ hlt8, hx']
          clear hx'
          obtain ⟨T2, hT2'⟩ : ∃ T2 : List UInt8, T2 = T ++ (Sha.be64 (8 * m.length)).take k2 := ⟨_, rfl⟩
          have hT2l : T2.length = N + k2 := by rw [hT2', List.length_append, hTl.out, List.length_take, Sha.length_be64]; omega
          rw [← hT2'] at hor2
          have hT2 : Hid (T2 = T ++ (Sha.be64 (8 * m.length)).take k2) := hT2'
          clear hT2'
          have or2 : (wr.alloc (.cells #[.int .u8 (x.toNat : Int)] 5)).ownsRow w.heap.size 5 1 (.slice A2 (N + k2) c2') T2.length (T2.map u8v) := by rw [hT2l]; exact own_new hor2 _
          have br2 := bytes_alloc wr 5 [x] #[.int .u8 (x.toNat : Int)] rfl (by simp [maxLen])
          have fr2 := hfr2.alloc (.cells #[.int .u8 (x.toNat : Int)] 5)
          have hl2 : (T2 ++ [x]).length = N + (k2 + 1) := by simp [hT2l]; omega
          have hT2s : T2.length + [x].length ≤ 140737488355328 := by simp [hT2l]; omega
          clear hT2l
          go_wp2_with (first
            | ((with_reducible refine wpl_append_sl _ rfl (.tmp 35) (.tmp 40) 23 rfl w.heap.size 5 ?_ ?_ _ ?_ _ or2 _ _ ?_ [x] br2 hT2s fr2.size (N + (k2 + 1)) hl2 ?_); rfl; kernel_rfl; rfl; rfl; intro R6 c6 w6 ho6 hg6 hb6))
          go_roundw
          case rel =>
            refine ⟨k2 + 1, R6, c6, hlt8, rfl, by go_num, ?_, fr2.grown hg6 (fun g h => .inr (own_base or2 h))⟩
            rw [htk.out, ← List.append_assoc, ← hT2.out]; exact ho6
          case measure => simp [intOf]; omega
        · have hk8 : Hid (k2 = 8) := show k2 = 8 by omega
          have blk2 := hblk.fr hfr2 (fun h => h)
          obtain ⟨E, hE'⟩ : ∃ E : List UInt8, E = T ++ Sha.be64 (8 * m.length) := ⟨_, rfl⟩
          have hEt : Hid (E = Sha.tail q m.length) := by show _ = _; rw [hE', hT.out, Sha.tail, hZ]
          have hEl : Hid (E.length = N + k2) := by show _ = _; rw [hE', List.length_append, hTl.out, Sha.length_be64]; have := hk8.out; omega
          have horE : wr.ownsRow w.heap.size 5 1 (.slice A2 (N + k2) c2') (N + k2) (E.map u8v) := by
            have e : (Sha.be64 (8 * m.length)).take k2 = Sha.be64 (8 * m.length) := List.take_of_length_le (by rw [Sha.length_be64]; have := hk8.out; omega)
            rw [e, ← hE'] at hor2; exact hor2
          clear hE'
          go_wp2_with (first
            | ((with_reducible refine wpl_load_part rfl 83 (.tmp 44) rfl p 0 rfl 86 _ blk2 (st u) rfl _ rfl rfl ?_ ?_); kernel_rfl)
            | ((with_reducible refine wpl_store_new _ rfl 83 (.tmp 6) (.tmp 45) rfl wr.heap.size ?_ (st u) ?_ 83 _ (Blk.new' rfl) ?_ ?_ (st_one _) ?_); rfl; rfl; kernel_rfl; rfl; intro w7 hb7 hg7))
          simp only [Act.put]
          generalize decide (8 * (k2 : Int) ≤ 56) = bb
          obtain ⟨G, hG'⟩ : ∃ G, wr.heap.size = G := ⟨_, rfl⟩
          have rdE : Rd wr (fun i => i ≠ G) A2 (N + k2) c2' E := (own_rd horE).mono (fun i hi _ => by omega)
          have hw7 : Fr (fun _ => False) wr w7 := ((Fr.refl (fun _ => False) wr).alloc _).grown hg7 (fun g h => .inr (by have := Option.some.inj h; omega))
          rw [hG'] at hb7
          have hGw : w.heap.size ≤ G := by have := hfr2.size; omega
          have hG : Hid (wr.heap.size = G) := hG'
          rw [hG']
          clear hG'
          have hEm : Hid (E.length % 64 = 0) := by show _ = _; rw [hEt.out]; exact Sha.tail_mod _ _
          go_loopw [3] (fun t wr3 => ∃ j A3 n3 c3', t = .slice A3 n3 c3' ∧ 64 * j ≤ E.length ∧ Rd wr3 (fun i => i ≠ G) A3 n3 c3' (E.drop (64 * j)) ∧ Blk wr3 G 83 (st (Sha.blocks j u E)) ∧ Fr (fun _ => False) w wr3) (fun t _ => lenOf t)
          case atStart => exact ⟨0, A2, N + k2, c2', rfl, by omega, rdE.fr hw7 (fun _ _ h => h), hb7, hfr2.trans hw7 (fun _ h => h.elim)⟩
          case round =>
            obtain ⟨j, A3, n3, c3', rfl, hj, hrd3, hb3', hfr3⟩ := hrel
            have hn3 : Hid (n3 = E.length - 64 * j) := by show n3 = _; rw [hrd3.len, List.length_drop]
            by_cases hpos : 0 < n3
            · have h64 : 64 ≤ n3 := by have := hn3.out; have := hEm.out; omega
              have hc3 := hrd3.le
              obtain ⟨U, hU'⟩ : ∃ U, U = Sha.blocks j u E := ⟨_, rfl⟩
              rw [← hU'] at hb3'
              have hU : Hid (U = Sha.blocks j u E) := hU'
              clear hU'
              obtain ⟨D, hD'⟩ : ∃ D, D = (E.drop (64 * j)).take 64 := ⟨_, rfl⟩
              have hD : Hid (D = (E.drop (64 * j)).take 64) := hD'
              clear hD'
              obtain ⟨X, hX'⟩ : ∃ X, X = Sha.compress U D := ⟨_, rfl⟩
              have hX : Hid (X = Sha.compress U D) := hX'
              clear hX'
              have hK' : Kst wr.drew := hK.fr hfr3.drew (fun h => h)
              have hby' : Bytes wr.drew wr.drew.heap.size (.slice A3 64 c3') D := by rw [hD.out]; exact ((hrd3.fr ((Fr.refl (fun _ => False) wr).drew) (fun _ _ h => h)).to h64).all
              have hl64 : D.length = 64 := by have := hn3.out; rw [hD.out]; simp only [List.length_take, List.length_drop]; omega
              have hpr : G < wr.drew.heap.size := hb3'.lt
              have hall' : ∀ w', (∃ n, w' = wr.drewN n) → Blk w' G 83 (st U) := fun w' ⟨n, e⟩ => e ▸ hb3'.drewN n
              go_wp2_with fail
              refine wp_region_ord [1, 2] [0] [3, 4] (by kernel_rfl) (by kernel_rfl) (fun _ _ _ _ _ h => h) ?_
              simp only [ordPick, Option.toList_some, List.cons_append, List.nil_append, List.getElem?_cons_succ, List.getElem?_cons_zero]
              repeat (go_big_quiet_step (fail))
              refine wpQuiet_nil ?_
              repeat (first | ((with_reducible refine wpq_load_part rfl 83 (.tmp 6) rfl G 0 rfl 83 _ hall' (st U) rfl _ rfl rfl ?_ ?_); kernel_rfl) | go_big_quiet_step (fail))
              refine wpQuiet_nil ?_
              go_wp2_with (first
                | (go_at_call 62; refine (block_any U D hl64 _ _ hby' hK').mono ?_; rw [← hX.out]; rintro e w8 ⟨rfl, hbel8⟩; have b8 := hb3'.drew.below hbel8 hpr)
                | ((with_reducible refine wpl_store_new _ rfl 83 (.tmp 6) (.tmp 54) rfl G ?_ (st X) ?_ 83 _ b8 ?_ ?_ (st_one _) ?_); rfl; rfl; kernel_rfl; rfl; intro w9 b9 hg9;
                      have hf9 := (((Fr.refl (fun i => i = G) wr).drew.trans (G := fun _ => False) (Fr.of_below hbel8) (fun _ h => h.elim)).grown hg9 (fun g h => .inl (Option.some.inj h).symm));
                      have hr9 := hrd3.fr hf9 (fun i hi h => hi h))
                | ((with_reducible refine wpl_slice_from rfl 23 (.tmp 49) (.const (.int .i64 64)) rfl 5 ?_ ?_ (fun i => i ≠ G) A3 n3 c3' _ hr9 ?_ .i64 64 ?_ h64 ?_); rfl; kernel_rfl; rfl; rfl; intro A9 hA9))
              go_roundw
              case rel =>
                refine ⟨j + 1, _, _, _, rfl, ?_, ?_, ?_, ?_⟩
                · have := hn3.out; omega
                · rw [List.drop_drop] at hA9; rw [show 64 * (j + 1) = 64 * j + 64 by omega]; exact hA9
                · rw [blocks_succ, ← hU.out, ← hD.out, ← hX.out]; exact b9
                · exact hfr3.trans hf9 (fun i h => .inr (by omega))
              case measure => simp [lenOf]; omega
            · obtain ⟨V, hV'⟩ : ∃ V, V = Sha.blocks j u E := ⟨_, rfl⟩
              rw [← hV'] at hb3'
              have hV : Hid (V = Sha.blocks j u E) := hV'
              clear hV'
              have hB3 : w.heap.size ≤ wr.heap.size := hfr3.size
              have hGr : G < wr.heap.size := hb3'.lt
              go_wp2_with (first
                | ((with_reducible refine wpl_make_bytes rfl 23 _ _ rfl w.heap.size 5 ?_ ?_ .i64 .i64 32 ?_ ?_ ?_ hB3 ?_); rfl; kernel_rfl; rfl; rfl; decide; intro w10 ho10 hg10;
                      have hb10 := hb3'.grown hg10 (fun e => (by cases e)))
                | ((with_reducible refine wpl_load_part rfl 83 (.tmp 6) rfl G 0 rfl 83 _ hb10 (st V) rfl _ rfl rfl ?_ ?_); kernel_rfl))
              have hfw10 : Fr (fun _ => False) w w10 := hfr3.grown hg10 (fun g h => (by cases h))
              have hout : Hid (Sha.sha m = Sha.out V) := by
                show _ = _
                rw [hsha, ← hEt.out, hV.out, show E.length / 64 = j by have := hn3.out; omega]
              clear hsha
              go_loopw [7, 57] (fun t7 t57 wr4 => ∃ k4 A4 c4, k4 ≤ 8 ∧ t7 = .slice A4 (4 * k4) c4 ∧ t57 = .int .i64 (k4 : Int) ∧ wr4.ownsRow w.heap.size 5 1 (.slice A4 (4 * k4) c4) (4 * k4) (((V.toList.take k4).flatMap Sha.bytesOf).map u8v) ∧ Fr (fun _ => False) w wr4) (fun _ t57 _ => 8 - (intOf t57).toNat)
              case atStart => exact ⟨0, _, _, by omega, rfl, rfl, ho10, hfw10⟩
              case round =>
                obtain ⟨k4, A4, c4, hk4, rfl, rfl, hor4, hfr4⟩ := hrel
                by_cases hlt4 : k4 < 8
                · obtain ⟨x, hx'⟩ : ∃ x, x = nth8 V k4 := ⟨_, rfl⟩
                  have hget : (st V)[k4]? = some (.int .u32 (n32 x)) := by rw [hx']; exact st_get V k4 hlt4
                  have hsz : (st V).size = 8 := rfl
                  obtain ⟨O, hO'⟩ : ∃ O, O = (V.toList.take k4).flatMap Sha.bytesOf := ⟨_, rfl⟩
                  have hOl : O.length = 4 * k4 := by rw [hO']; exact out_take_length V k4 hk4
                  have hO2 : Hid ((V.toList.take (k4 + 1)).flatMap Sha.bytesOf = O ++ Sha.bytesOf x) := by show _ = _; rw [out_take V k4 hlt4, ← hO', ← hx']
                  rw [← hO'] at hor4
                  clear hO' hx'
                  obtain ⟨y0, hy0'⟩ : ∃ y, y = UInt8.ofBitVec ((x >>> 24).setWidth 8) := ⟨_, rfl⟩
                  obtain ⟨y1, hy1'⟩ : ∃ y, y = UInt8.ofBitVec ((x >>> 16).setWidth 8) := ⟨_, rfl⟩
                  obtain ⟨y2, hy2'⟩ : ∃ y, y = UInt8.ofBitVec ((x >>> 8).setWidth 8) := ⟨_, rfl⟩
                  obtain ⟨y3, hy3'⟩ : ∃ y, y = UInt8.ofBitVec (x.setWidth 8) := ⟨_, rfl⟩
                  have hby : Hid (Sha.bytesOf x = [y0, y1, y2, y3]) := by show _ = _; rw [hy0', hy1', hy2', hy3']; rfl
                  have hy0 := hy0'.symm
                  have hy1 := hy1'.symm
                  have hy2 := hy2'.symm
                  have hy3 := hy3'.symm
                  clear hy0' hy1' hy2' hy3'
                  have or4 : (wr.alloc (.cells #[.int .u8 (y0.toNat : Int), .int .u8 (y1.toNat : Int), .int .u8 (y2.toNat : Int), .int .u8 (y3.toNat : Int)] 5)).ownsRow w.heap.size 5 1 (.slice A4 (4 * k4) c4) O.length (O.map u8v) := by rw [hOl]; exact own_new hor4 _
                  have br4 := bytes_alloc wr 5 [y0, y1, y2, y3] #[.int .u8 (y0.toNat : Int), .int .u8 (y1.toNat : Int), .int .u8 (y2.toNat : Int), .int .u8 (y3.toNat : Int)] rfl (by simp [maxLen])
                  have fr4 := hfr4.alloc (.cells #[.int .u8 (y0.toNat : Int), .int .u8 (y1.toNat : Int), .int .u8 (y2.toNat : Int), .int .u8 (y3.toNat : Int)] 5)
                  have hl4 : (O ++ [y0, y1, y2, y3]).length = 4 * (k4 + 1) := by simp [hOl]; omega
                  have hs4 : O.length + [y0, y1, y2, y3].length ≤ 140737488355328 := by simp [hOl]; omega
                  clear hOl
                  go_wp2_with (first
                    | ((with_reducible refine wpl_index_ints rfl 83 (.tmp 56) (.tmp 57) rfl 75 8 .u32 .i64 ?_ ?_ ?_ (st V) k4 _ ?_ ?_ hlt4 hget ?_); rfl; rfl; kernel_rfl; rfl; rfl)
                    | ((with_reducible refine wpl_append_sl _ rfl (.tmp 60) (.tmp 72) 23 rfl w.heap.size 5 ?_ ?_ _ ?_ O or4 _ _ ?_ [y0, y1, y2, y3] br4 hs4 fr4.size (4 * (k4 + 1)) hl4 ?_); rfl; kernel_rfl; rfl; rfl; intro R6 c6 w6 ho6 hg6 hb6))
                  go_roundw
                  case rel =>
                    refine ⟨k4 + 1, R6, c6, hlt4, rfl, by go_num, ?_, fr4.grown hg6 (fun g h => .inr (own_base or4 h))⟩
                    rw [hO2.out, hby.out]; exact ho6
                  case measure => simp [intOf]; omega
                · have hk8' : Hid (k4 = 8) := show k4 = 8 by omega
                  have hbo : Bytes wr wr.heap.size (.slice A4 (4 * k4) c4) (Sha.sha m) := by
                    have e : (V.toList.take k4).flatMap Sha.bytesOf = Sha.sha m := by rw [hout.out, hk8'.out]; rfl
                    rw [e] at hor4
                    exact (own_rd hor4).all
                  go_wp2_with ((with_reducible refine wpl_string_bytes _ rfl 23 9 5 (.tmp 75) rfl ?_ ?_ ?_ wr.heap.size _ ?_ _ hbo ?_); rfl; rfl; rfl; rfl)
                  go_ret
                  exact ⟨rfl, hfr4.below (fun _ h => h.elim) (Nat.le_refl _)⟩
end Go.Proofs.YtajohibeoicepaaDoor

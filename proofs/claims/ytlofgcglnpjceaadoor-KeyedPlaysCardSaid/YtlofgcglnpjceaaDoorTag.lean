/-
  HMAC.
-/
import Derived.Test.YtlofgcglnpjceaaDoorWire
import Derived.Test.YtlofgcglnpjceaaDoorKeyP
import Derived.Test.YtlofgcglnpjceaaDoorPad
namespace Go.Proofs.YtlofgcglnpjceaaDoor
open Go.RowKit Go.Pl
/-- Bytes of a string are handed back. -/
def Digged (w : World) (bs : List UInt8) (e : Ending) (w' : World) : Prop :=
  ∃ g n c, n = bs.length ∧ e = .returned (.slice (some ⟨g, 0, none⟩) n c) ∧ w.heap.size ≤ g ∧ Dig w' g 5 c bs ∧ Below w.heap.size w w'
theorem digest_any {A : Option Addr} {n c : Nat} {bs : List UInt8} (w : World) (hK : Kst w) (hA : Rd w (fun _ => True) A n c bs) (hl : bs.length ≤ 70368744177664) :
    Calls Tryd.prog 25 #[.slice A n c] w fun e w' => Digged w (Sha.sha bs) e w' := by
  go_enter Tryd.func25, Tryd.ntmps25
  go_wp2_with fail
  refine (sum_any _ hK hA hl).mono ?_
  rintro e w1 ⟨rfl, hb1⟩
  obtain ⟨D, hD'⟩ : ∃ D, Sha.sha bs = D := ⟨_, rfl⟩
  have hm : D.length ≤ maxLen := by rw [← hD', Sha.length_sha]; simp [maxLen]
  rw [hD']
  have hD := Lib.hid hD'
  have hs := hb1.size
  clear hD'
  go_wp2_with (first
    | ((with_reducible refine wpl_bytes_str rfl 9 22 5 (.tmp 4) rfl ?_ ?_ ?_ D ?_ hm ?_); rfl; rfl; rfl; rfl; intro c2 w2 hd2 hg2;
        have hb2 := hb1.grown hg2 hs (fun k hk => by cases hk)))
  go_ret
  exact ⟨w1.heap.size, D.length, c2, by rw [hD.out], rfl, hs, by rw [hD.out]; exact hd2, hb2⟩
/-- The first k bytes combined with x. -/
def mixTo (P : List UInt8) (x : UInt8) (k : Nat) : List UInt8 := (P.take k).map (· ^^^ x) ++ P.drop k
theorem length_mixTo (P : List UInt8) (x : UInt8) (k : Nat) : (mixTo P x k).length = P.length := by
  simp [mixTo]; omega
theorem mixTo_get (P : List UInt8) (x : UInt8) (k : Nat) (h : k < P.length) : (mixTo P x k).getD k 0 = P.getD k 0 := by
  simp [mixTo, List.getElem?_append, Nat.min_eq_left (Nat.le_of_lt h)]
theorem mixTo_set (P : List UInt8) (x : UInt8) (k : Nat) (h : k < P.length) : (mixTo P x k).set k (P.getD k 0 ^^^ x) = mixTo P x (k + 1) := by
  have hg : P.getD k 0 = P[k] := by simp [h]
  rw [hg]
  unfold mixTo
  rw [List.drop_eq_getElem_cons h, List.take_succ_eq_append_getElem h, List.set_append_right _ _ (by simp; omega)]
  have e : k - ((P.take k).map (· ^^^ x)).length = 0 := by simp; omega
  rw [e, List.set_cons_zero, List.map_append, List.append_assoc]
  rfl
/-- 64 bytes as cells. -/
def b64 (P : List UInt8) : Array Value := (P.map u8v).toArray
theorem b64_get (P : List UInt8) (k : Nat) (h : k < P.length) : (b64 P)[k]? = some (.int .u8 ((P.getD k 0).toNat : Int)) := by
  simp [b64, h, u8v]
theorem b64_set (P : List UInt8) (k : Nat) (y : UInt8) : (b64 P).setIfInBounds k (.int .u8 (y.toNat : Int)) = b64 (P.set k y) := by
  apply Array.ext'
  simp [b64, u8v, List.map_set]
theorem b64_one (P : List UInt8) : ∀ v ∈ (b64 P).toList, v.oneCell' = true := by
  intro v hv
  exact u8v_one P v (by simpa [b64] using hv)
set_option maxRecDepth 100000 in
theorem pad_any {G : Nat} (P : List UInt8) (hP : P.length = 64) (x : UInt8) (w : World) (hG : Blk w G 46 (b64 P)) :
    Calls Tryd.prog 26 #[.int .u8 (x.toNat : Int), .pointer (some ⟨G, 0, none⟩)] w fun e w' =>
      ∃ g, e = .returned (.slice (some ⟨g, 0, none⟩) 64 64) ∧ w.heap.size ≤ g ∧ Blk w' g 46 (b64 (P.map (· ^^^ x))) ∧ Below w.heap.size w w' := by
  have hsz : (b64 P).size = 64 := by simp [b64, hP]
  have hex := Lib.hid (show (b64 P).extract 0 (0 + (b64 P).size) = b64 P by simp)
  have hsi := Lib.hid (show (Tryd.prog.info? 46).map (·.size) = some (b64 P).size by rw [hsz]; kernel_rfl)
  have hsz := Lib.hid hsz
  obtain ⟨C, hC'⟩ : ∃ C, b64 P = C := ⟨_, rfl⟩
  rw [hC'] at hG hex hsi hsz
  have hC := Lib.hid hC'
  have h1 : Hid (∀ v ∈ C.toList, v.oneCell' = true) := by rw [← hC']; exact b64_one P
  clear hC'
  go_enter Tryd.func26, Tryd.ntmps26
  go_wp2_with (first
    | ((with_reducible refine wpl_load_part rfl 46 (.tmp 1) rfl G 0 rfl 46 _ hG C hex.out (.array 64 5) Tryd.underlying46 rfl hsi.out ?_))
    | ((with_reducible refine wpl_store_new _ rfl 46 (.tmp 4) (.tmp 6) rfl w.heap.size rfl C rfl 46 _ (Blk.new w _ _) hsi.out ?_ h1.out ?_); rw [hsz.out]; rfl; intro w3 hb3 hg3))
  have hg3' : Below w.heap.size w w3 := ((Below.refl _ _).alloc (Nat.le_refl _) _).grown hg3 (by simp) (by intro k hk; cases hk; exact Nat.le_refl _)
  go_wp2_with fail
  go_loopw [7] (fun t wr => ∃ k : Nat, k ≤ 64 ∧ t = .int .i64 (k : Int) ∧ Blk wr w.heap.size 46 (b64 (mixTo P x k)) ∧ Below w.heap.size w wr) (fun t _ => 64 - (intOf t).toNat)
  case atStart => exact ⟨0, by omega, rfl, by rw [← hC.out] at hb3; exact hb3, hg3'⟩
  case round =>
    obtain ⟨k, hk, rfl, hbk, hbl⟩ := hrel
    by_cases hlt : k < 64
    · have hlt' : (k : Int) < 64 := by omega
      have hl : (mixTo P x k).length = 64 := by rw [length_mixTo, hP]
      have hkl : k < P.length := by omega
      have hc : wr.cell? ⟨w.heap.size, k, none⟩ = some (.int .u8 ((P.getD k 0).toNat : Int)) := by
        rw [hbk.cell k, b64_get _ k (by omega), mixTo_get P x k hkl]
      have hfz := hbk.frozen k
      have hset := Lib.hid (show (b64 (mixTo P x k)).setIfInBounds k (.int .u8 ((P.getD k 0 ^^^ x).toNat : Int)) = b64 (mixTo P x (k + 1)) by rw [b64_set, mixTo_set P x k hkl])
      obtain ⟨y, hy⟩ : ∃ y, P.getD k 0 = y := ⟨_, rfl⟩
      rw [hy] at hc hset
      clear hy hl hkl
      go_wp2_with fail
      go_roundw
      case rel => exact ⟨k + 1, by omega, by go_num, hset.out ▸ hbk.set_ k _, hbl.setCell (Nat.le_refl _) _⟩
      case measure => simp [intOf]; omega
    · have hk64 : Hid (k = 64) := show k = 64 by omega
      have hge : ¬ (k : Int) < 64 := by omega
      go_wp2_with fail
      go_ret
      refine ⟨w.heap.size, rfl, Nat.le_refl _, ?_, hbl⟩
      have e : mixTo P x k = P.map (· ^^^ x) := by rw [hk64.out]; unfold mixTo; rw [List.take_of_length_le (by omega), List.drop_of_length_le (by omega), List.append_nil]
      rw [← e]; exact hbk
theorem rd_b64 {w : World} {g : Nat} {t : TypeId} {P : List UInt8} (h : Blk w g t (b64 P)) (hP : P.length = 64) : Rd w (fun i => i = g) (some ⟨g, 0, none⟩) 64 64 P := by
  refine ⟨hP.symm, Nat.le_refl _, by simp [maxLen], (fun e => by cases e), fun _ => ⟨g, 0, rfl, rfl, h.lt, fun i hi => ?_⟩⟩
  rw [h.cell (0 + i), Nat.zero_add]
  exact b64_get P i (by omega)
set_option maxRecDepth 100000 in
set_option maxHeartbeats 2000000 in
theorem tag_any {A1 A2 : Option Addr} {n1 c1 n2 c2 : Nat} {k m : List UInt8} (w : World) (hK : Kst w) (h1 : Rd w (fun _ => True) A1 n1 c1 k) (h2 : Rd w (fun _ => True) A2 n2 c2 m) (hlk : k.length ≤ 1000000) (hlm : m.length ≤ 1000000) :
    Calls Tryd.prog 12 #[.slice A1 n1 c1, .slice A2 n2 c2] w fun e w' => Digged w (Keyed.tag k m) e w' := by
  have hmf : ∀ (fn : Fn) (first cap : Array Value) (w : World), (Instr.makeFunc fn first cap).run Tryd.prog w = .ok (.func fn first cap) w := fun _ _ _ _ => rfl
  obtain rfl := h1.len
  have hm0 : Rd w (fun i => i < w.heap.size) A2 n2 c2 m := h2.mono (fun _ hi _ => hi)
  have hK0 := Lib.hid hK
  have hlm' : m.length = n2 := h2.len.symm
  by_cases hk : 64 < k.length
  · have hkI : (64 : Int) < (k.length : Int) := by omega
    go_enter Tryd.func12, Tryd.ntmps12
    go_wp2_with fail
    have hblA : Below w.heap.size w (w.alloc (.cells (List.replicate 64 (Value.int .u8 0)).toArray 46)) := (Below.refl _ _).alloc (Nat.le_refl _) _
    refine (digest_any _ (hK.below hblA hK.pos) (h1.fr ((Fr.refl (fun _ => False) w).alloc _) (fun _ _ h => h)) (by omega)).mono ?_
    rintro e w1 ⟨g1, l1, c1', hl1, rfl, hg1, hd1, hbl1'⟩
    have hblG := hblA.trans (hbl1'.mono hblA.size)
    have hbG := (Blk.new w 46 (List.replicate 64 (Value.int .u8 0)).toArray).below hbl1' (by simp)
    have hrK := hd1.rd
    have hKK : (Sha.sha k).length ≤ 64 := by rw [Sha.length_sha]; omega
    have hsh : Keyed.short k = Sha.sha k := by unfold Keyed.short; rw [if_pos hk]
    have hET : Hid (Keyed.tag k m = Sha.sha (Keyed.mixed (Sha.sha k) 92 ++ Sha.sha (Keyed.mixed (Sha.sha k) 54 ++ m))) := by show _ = _; rw [Keyed.tag, hsh]
    obtain ⟨KK, hKKd⟩ : ∃ KK, Sha.sha k = KK := ⟨_, rfl⟩
    rw [hKKd] at hKK hrK hET hl1
    subst hl1
    clear hsh hKKd hd1 hbl1' hblA hg1 h1 h2 hK hkI hk
    have hlKK := Lib.hid hKK
    have hcp : Hid ((KK.map u8v ++ (List.replicate 64 (Value.int .u8 0)).drop KK.length).toArray = b64 (KK ++ List.replicate (64 - KK.length) 0)) := by
      show _ = _
      rw [b64, List.map_append, List.drop_replicate, List.map_replicate]
      rfl
    have hPl : (KK ++ List.replicate (64 - KK.length) 0).length = 64 := by simp; omega
    have hmx : ∀ x : UInt8, (KK ++ List.replicate (64 - KK.length) 0).map (· ^^^ x) = Keyed.mixed KK x := fun _ => rfl
    obtain ⟨P, hP'⟩ : ∃ P, KK ++ List.replicate (64 - KK.length) 0 = P := ⟨_, rfl⟩
    rw [hP'] at hcp hPl hmx
    have hmx := Lib.hid hmx
    have hPl := Lib.hid hPl
    clear hP'
    go_wp2_with (first
      | ((with_reducible refine wpl_copy_rd rfl (.tmp 12) (.tmp 13) 22 22 rfl 5 ?_ ?_ w.heap.size 64 64 ?_ 46 _ hbG _ _ _ _ KK hrK ?_ hlKK.out ?_ ?_); rfl; kernel_rfl; rfl; rfl; exact hlKK.out; intro w2 hb2' hg2;
            have hbl2 := hblG.grown hg2 hblG.size (fun k hk => by cases hk; exact Nat.le_refl _);
            have hb2 : Blk w2 w.heap.size 46 (b64 P) := hcp.out ▸ (id hb2' : Blk w2 w.heap.size 46 (KK.map u8v ++ (List.replicate 64 (Value.int .u8 0)).drop KK.length).toArray);
            clear hb2' hg2 hbG hrK hblG hKK))
    have hm0 := Lib.hid hm0
    refine (pad_any P hPl.out 92 _ hb2).mono ?_
    rintro e w3 ⟨g3, rfl, hg3, hb3, hbl3'⟩
    have hbl3 := hbl2.trans (hbl3'.mono hbl2.size)
    have hb2 := hb2.below hbl3' hb2.lt
    have hg3' := Lib.hid (Nat.le_trans hbl2.size hg3)
    clear hg3
    go_wp2_with fail
    refine (pad_any P hPl.out 54 _ hb2).mono ?_
    rintro e w4 ⟨g4, rfl, hg4, hb4, hbl4'⟩
    have hbl4 := hbl3.trans (hbl4'.mono hbl3.size)
    have hb3 := hb3.below hbl4' hb3.lt
    clear hb2
    have hr3 := rd_b64 hb3 (by rw [List.length_map]; exact hPl.out)
    have hr4 := rd_b64 hb4 (by rw [List.length_map]; exact hPl.out)
    have hm4 := hm0.out.keep (w' := w4) hbl4.size (fun q hq _ => hbl4.cell hq)
    have e92 : P.map (· ^^^ 92) = Keyed.mixed KK 92 := hmx.out 92
    have e54 : P.map (· ^^^ 54) = Keyed.mixed KK 54 := hmx.out 54
    rw [e92] at hr3
    rw [e54] at hr4
    have hl92 := Keyed.length_mixed hlKK.out 92
    have hl54 := Keyed.length_mixed hlKK.out 54
    obtain ⟨X, hX⟩ : ∃ X, Keyed.mixed KK 92 = X := ⟨_, rfl⟩
    obtain ⟨Y, hY⟩ : ∃ Y, Keyed.mixed KK 54 = Y := ⟨_, rfl⟩
    rw [hX] at hr3 hl92
    rw [hY] at hr4 hl54
    have hX' := Lib.hid hX
    have hY' := Lib.hid hY
    have hlX := Lib.hid hl92
    have hlY := Lib.hid hl54
    have hKst4 := Lib.hid (hK0.out.below hbl4 hK0.out.pos)
    have hms : Hid (64 + n2 ≤ 140737488355328) := by have := hm0.out.len; show _ ≤ _; omega
    obtain ⟨N5, hN5⟩ : ∃ N5, Hid (64 + n2 = N5) := ⟨_, rfl⟩
    clear hb3 hb4 hg4 e92 e54 hX hY hl92 hl54 hbl4' hbl3' hbl3
    have hr3' := Lib.hid hr3
    go_wp2_with (first
      | ((with_reducible refine wpl_append_full rfl (.tmp 19) (.tmp 20) 22 rfl 5 ?_ ?_ _ _ _ _ _ _ _ Y m hr4 ?_ hm4 ?_ (by decide) hms.out N5 hN5.out ?_); rfl; kernel_rfl; rfl; rfl; intro A5 c5 w5 hr5 hg5;
            have hbl5 := hbl4.grown hg5 hbl4.size (fun k hk => by cases hk);
            have hr3 := hr3'.out.fr ((Fr.refl (fun _ => False) w4).grown hg5 (fun k hk => by cases hk)) (fun _ _ h => h);
            have hKst5 := Lib.hid (hK0.out.below hbl5 hK0.out.pos);
            clear hr4 hm4 hg5))
    have hl5 : (Y ++ m).length ≤ 70368744177664 := by have := hlY.out; simp; omega
    refine (digest_any _ hKst5.out hr5 hl5).mono ?_
    rintro e w6 ⟨g6, n6, c6, hn6, rfl, hg6, hd6, hbl6'⟩
    have hbl6 := hbl5.trans (hbl6'.mono hbl5.size)
    have hr3 := hr3.keep (w' := w6) hbl6'.size (fun q hq _ => hbl6'.cell hq)
    have hKst6 := Lib.hid (hK0.out.below hbl6 hK0.out.pos)
    have hD32 := Sha.length_sha (Y ++ m)
    have hr6 := hd6.rd
    obtain ⟨D, hD⟩ : ∃ D, Sha.sha (Y ++ m) = D := ⟨_, rfl⟩
    rw [hD] at hr6 hD32 hn6
    rw [← hn6] at hr6
    have hD' := Lib.hid hD
    have hn6' := Lib.hid hn6
    have hD32' := Lib.hid hD32
    have hms6 : Hid (64 + n6 ≤ 140737488355328) := by show _ ≤ _; omega
    obtain ⟨N7, hN7⟩ : ∃ N7, Hid (64 + n6 = N7) := ⟨_, rfl⟩
    clear hr5 hd6 hbl6' hbl5 hbl4 hD hn6 hD32 hg6 hr3' hl5
    go_wp2_with (first
      | ((with_reducible refine wpl_append_full rfl (.tmp 17) (.tmp 22) 22 rfl 5 ?_ ?_ _ _ _ _ _ _ _ X D hr3 ?_ hr6 ?_ (by decide) hms6.out N7 hN7.out ?_); rfl; kernel_rfl; rfl; rfl; intro A7 c7 w7 hr7 hg7;
            have hbl7 := hbl6.grown hg7 hbl6.size (fun k hk => by cases hk);
            have hKst7 := Lib.hid (hK0.out.below hbl7 hK0.out.pos);
            clear hr3 hr6 hg7))
    have hl7 : (X ++ D).length ≤ 70368744177664 := by have := hlX.out; have := hD32'.out; simp; omega
    refine (digest_any _ hKst7.out hr7 hl7).mono ?_
    rintro e w8 ⟨g8, n8, c8, hn8, rfl, hg8, hd8, hbl8'⟩
    have hbl8 := hbl7.trans (hbl8'.mono hbl7.size)
    have hg8' := Lib.hid (Nat.le_trans hbl7.size hg8)
    have etag : Hid (Sha.sha (X ++ D) = Keyed.tag k m) := by
      show _ = _
      rw [← hX'.out, ← hD'.out, ← hY'.out]
      exact hET.out.symm
    have hn8' := Lib.hid hn8
    have hd8' := Lib.hid hd8
    clear hn8 hd8 hg8 hr7 hbl8' hbl7 hbl6
    go_wp2_with fail
    go_ret
    exact ⟨g8, n8, c8, by rw [hn8'.out, etag.out], rfl, hg8'.out, etag.out ▸ hd8'.out, hbl8⟩
  · have hkI : ¬ (64 : Int) < (k.length : Int) := by omega
    have hblG : Below w.heap.size w (w.alloc (.cells #[Value.int .u8 0, Value.int .u8 0, Value.int .u8 0, Value.int .u8 0, Value.int .u8 0, Value.int .u8 0, Value.int .u8 0, Value.int .u8 0, Value.int .u8 0, Value.int .u8 0, Value.int .u8 0, Value.int .u8 0, Value.int .u8 0, Value.int .u8 0, Value.int .u8 0, Value.int .u8 0, Value.int .u8 0, Value.int .u8 0, Value.int .u8 0, Value.int .u8 0, Value.int .u8 0, Value.int .u8 0, Value.int .u8 0, Value.int .u8 0, Value.int .u8 0, Value.int .u8 0, Value.int .u8 0, Value.int .u8 0, Value.int .u8 0, Value.int .u8 0, Value.int .u8 0, Value.int .u8 0, Value.int .u8 0, Value.int .u8 0, Value.int .u8 0, Value.int .u8 0, Value.int .u8 0, Value.int .u8 0, Value.int .u8 0, Value.int .u8 0, Value.int .u8 0, Value.int .u8 0, Value.int .u8 0, Value.int .u8 0, Value.int .u8 0, Value.int .u8 0, Value.int .u8 0, Value.int .u8 0, Value.int .u8 0, Value.int .u8 0, Value.int .u8 0, Value.int .u8 0, Value.int .u8 0, Value.int .u8 0, Value.int .u8 0, Value.int .u8 0, Value.int .u8 0, Value.int .u8 0, Value.int .u8 0, Value.int .u8 0, Value.int .u8 0, Value.int .u8 0, Value.int .u8 0, Value.int .u8 0] 46)) := (Below.refl _ _).alloc (Nat.le_refl _) _
    have hbG := Blk.new w 46 #[Value.int .u8 0, Value.int .u8 0, Value.int .u8 0, Value.int .u8 0, Value.int .u8 0, Value.int .u8 0, Value.int .u8 0, Value.int .u8 0, Value.int .u8 0, Value.int .u8 0, Value.int .u8 0, Value.int .u8 0, Value.int .u8 0, Value.int .u8 0, Value.int .u8 0, Value.int .u8 0, Value.int .u8 0, Value.int .u8 0, Value.int .u8 0, Value.int .u8 0, Value.int .u8 0, Value.int .u8 0, Value.int .u8 0, Value.int .u8 0, Value.int .u8 0, Value.int .u8 0, Value.int .u8 0, Value.int .u8 0, Value.int .u8 0, Value.int .u8 0, Value.int .u8 0, Value.int .u8 0, Value.int .u8 0, Value.int .u8 0, Value.int .u8 0, Value.int .u8 0, Value.int .u8 0, Value.int .u8 0, Value.int .u8 0, Value.int .u8 0, Value.int .u8 0, Value.int .u8 0, Value.int .u8 0, Value.int .u8 0, Value.int .u8 0, Value.int .u8 0, Value.int .u8 0, Value.int .u8 0, Value.int .u8 0, Value.int .u8 0, Value.int .u8 0, Value.int .u8 0, Value.int .u8 0, Value.int .u8 0, Value.int .u8 0, Value.int .u8 0, Value.int .u8 0, Value.int .u8 0, Value.int .u8 0, Value.int .u8 0, Value.int .u8 0, Value.int .u8 0, Value.int .u8 0, Value.int .u8 0]
    have hrK := h1.fr ((Fr.refl (fun _ => False) w).alloc (.cells #[Value.int .u8 0, Value.int .u8 0, Value.int .u8 0, Value.int .u8 0, Value.int .u8 0, Value.int .u8 0, Value.int .u8 0, Value.int .u8 0, Value.int .u8 0, Value.int .u8 0, Value.int .u8 0, Value.int .u8 0, Value.int .u8 0, Value.int .u8 0, Value.int .u8 0, Value.int .u8 0, Value.int .u8 0, Value.int .u8 0, Value.int .u8 0, Value.int .u8 0, Value.int .u8 0, Value.int .u8 0, Value.int .u8 0, Value.int .u8 0, Value.int .u8 0, Value.int .u8 0, Value.int .u8 0, Value.int .u8 0, Value.int .u8 0, Value.int .u8 0, Value.int .u8 0, Value.int .u8 0, Value.int .u8 0, Value.int .u8 0, Value.int .u8 0, Value.int .u8 0, Value.int .u8 0, Value.int .u8 0, Value.int .u8 0, Value.int .u8 0, Value.int .u8 0, Value.int .u8 0, Value.int .u8 0, Value.int .u8 0, Value.int .u8 0, Value.int .u8 0, Value.int .u8 0, Value.int .u8 0, Value.int .u8 0, Value.int .u8 0, Value.int .u8 0, Value.int .u8 0, Value.int .u8 0, Value.int .u8 0, Value.int .u8 0, Value.int .u8 0, Value.int .u8 0, Value.int .u8 0, Value.int .u8 0, Value.int .u8 0, Value.int .u8 0, Value.int .u8 0, Value.int .u8 0, Value.int .u8 0] 46)) (fun _ _ h => h)
    have hKK : k.length ≤ 64 := by omega
    have hET : Hid (Keyed.tag k m = Sha.sha (Keyed.mixed k 92 ++ Sha.sha (Keyed.mixed k 54 ++ m))) := by show _ = _; rw [Keyed.tag, Keyed.short_same hKK]
    clear h1 h2 hK hk
    go_enter Tryd.func12, Tryd.ntmps12
    have hlKK := Lib.hid hKK
    have hcp : Hid ((k.map u8v ++ (List.replicate 64 (Value.int .u8 0)).drop k.length).toArray = b64 (k ++ List.replicate (64 - k.length) 0)) := by
      show _ = _
      rw [b64, List.map_append, List.drop_replicate, List.map_replicate]
      rfl
    have hPl : (k ++ List.replicate (64 - k.length) 0).length = 64 := by simp; omega
    have hmx : ∀ x : UInt8, (k ++ List.replicate (64 - k.length) 0).map (· ^^^ x) = Keyed.mixed k x := fun _ => rfl
    obtain ⟨P, hP'⟩ : ∃ P, k ++ List.replicate (64 - k.length) 0 = P := ⟨_, rfl⟩
    rw [hP'] at hcp hPl hmx
    have hmx := Lib.hid hmx
    have hPl := Lib.hid hPl
    clear hP'
    go_wp2_with (first
      | ((with_reducible refine wpl_copy_rd rfl (.tmp 12) (.tmp 13) 22 22 rfl 5 ?_ ?_ w.heap.size 64 64 ?_ 46 _ hbG _ _ _ _ k hrK ?_ hlKK.out ?_ ?_); rfl; kernel_rfl; rfl; rfl; exact hlKK.out; intro w2 hb2' hg2;
            have hbl2 := hblG.grown hg2 hblG.size (fun k hk => by cases hk; exact Nat.le_refl _);
            have hb2 : Blk w2 w.heap.size 46 (b64 P) := hcp.out ▸ (id hb2' : Blk w2 w.heap.size 46 (k.map u8v ++ (List.replicate 64 (Value.int .u8 0)).drop k.length).toArray);
            clear hb2' hg2 hbG hrK hblG hKK))
    have hm0 := Lib.hid hm0
    refine (pad_any P hPl.out 92 _ hb2).mono ?_
    rintro e w3 ⟨g3, rfl, hg3, hb3, hbl3'⟩
    have hbl3 := hbl2.trans (hbl3'.mono hbl2.size)
    have hb2 := hb2.below hbl3' hb2.lt
    have hg3' := Lib.hid (Nat.le_trans hbl2.size hg3)
    clear hg3
    go_wp2_with fail
    refine (pad_any P hPl.out 54 _ hb2).mono ?_
    rintro e w4 ⟨g4, rfl, hg4, hb4, hbl4'⟩
    have hbl4 := hbl3.trans (hbl4'.mono hbl3.size)
    have hb3 := hb3.below hbl4' hb3.lt
    clear hb2
    have hr3 := rd_b64 hb3 (by rw [List.length_map]; exact hPl.out)
    have hr4 := rd_b64 hb4 (by rw [List.length_map]; exact hPl.out)
    have hm4 := hm0.out.keep (w' := w4) hbl4.size (fun q hq _ => hbl4.cell hq)
    have e92 : P.map (· ^^^ 92) = Keyed.mixed k 92 := hmx.out 92
    have e54 : P.map (· ^^^ 54) = Keyed.mixed k 54 := hmx.out 54
    rw [e92] at hr3
    rw [e54] at hr4
    have hl92 := Keyed.length_mixed hlKK.out 92
    have hl54 := Keyed.length_mixed hlKK.out 54
    obtain ⟨X, hX⟩ : ∃ X, Keyed.mixed k 92 = X := ⟨_, rfl⟩
    obtain ⟨Y, hY⟩ : ∃ Y, Keyed.mixed k 54 = Y := ⟨_, rfl⟩
    rw [hX] at hr3 hl92
    rw [hY] at hr4 hl54
    have hX' := Lib.hid hX
    have hY' := Lib.hid hY
    have hlX := Lib.hid hl92
    have hlY := Lib.hid hl54
    have hKst4 := Lib.hid (hK0.out.below hbl4 hK0.out.pos)
    have hms : Hid (64 + n2 ≤ 140737488355328) := by have := hm0.out.len; show _ ≤ _; omega
    obtain ⟨N5, hN5⟩ : ∃ N5, Hid (64 + n2 = N5) := ⟨_, rfl⟩
    clear hb3 hb4 hg4 e92 e54 hX hY hl92 hl54 hbl4' hbl3' hbl3
    have hr3' := Lib.hid hr3
    go_wp2_with (first
      | ((with_reducible refine wpl_append_full rfl (.tmp 19) (.tmp 20) 22 rfl 5 ?_ ?_ _ _ _ _ _ _ _ Y m hr4 ?_ hm4 ?_ (by decide) hms.out N5 hN5.out ?_); rfl; kernel_rfl; rfl; rfl; intro A5 c5 w5 hr5 hg5;
            have hbl5 := hbl4.grown hg5 hbl4.size (fun k hk => by cases hk);
            have hr3 := hr3'.out.fr ((Fr.refl (fun _ => False) w4).grown hg5 (fun k hk => by cases hk)) (fun _ _ h => h);
            have hKst5 := Lib.hid (hK0.out.below hbl5 hK0.out.pos);
            clear hr4 hm4 hg5))
    have hl5 : (Y ++ m).length ≤ 70368744177664 := by have := hlY.out; simp; omega
    refine (digest_any _ hKst5.out hr5 hl5).mono ?_
    rintro e w6 ⟨g6, n6, c6, hn6, rfl, hg6, hd6, hbl6'⟩
    have hbl6 := hbl5.trans (hbl6'.mono hbl5.size)
    have hr3 := hr3.keep (w' := w6) hbl6'.size (fun q hq _ => hbl6'.cell hq)
    have hKst6 := Lib.hid (hK0.out.below hbl6 hK0.out.pos)
    have hD32 := Sha.length_sha (Y ++ m)
    have hr6 := hd6.rd
    obtain ⟨D, hD⟩ : ∃ D, Sha.sha (Y ++ m) = D := ⟨_, rfl⟩
    rw [hD] at hr6 hD32 hn6
    rw [← hn6] at hr6
    have hD' := Lib.hid hD
    have hn6' := Lib.hid hn6
    have hD32' := Lib.hid hD32
    have hms6 : Hid (64 + n6 ≤ 140737488355328) := by show _ ≤ _; omega
    obtain ⟨N7, hN7⟩ : ∃ N7, Hid (64 + n6 = N7) := ⟨_, rfl⟩
    clear hr5 hd6 hbl6' hbl5 hbl4 hD hn6 hD32 hg6 hr3' hl5
    go_wp2_with (first
      | ((with_reducible refine wpl_append_full rfl (.tmp 17) (.tmp 22) 22 rfl 5 ?_ ?_ _ _ _ _ _ _ _ X D hr3 ?_ hr6 ?_ (by decide) hms6.out N7 hN7.out ?_); rfl; kernel_rfl; rfl; rfl; intro A7 c7 w7 hr7 hg7;
            have hbl7 := hbl6.grown hg7 hbl6.size (fun k hk => by cases hk);
            have hKst7 := Lib.hid (hK0.out.below hbl7 hK0.out.pos);
            clear hr3 hr6 hg7))
    have hl7 : (X ++ D).length ≤ 70368744177664 := by have := hlX.out; have := hD32'.out; simp; omega
    refine (digest_any _ hKst7.out hr7 hl7).mono ?_
    rintro e w8 ⟨g8, n8, c8, hn8, rfl, hg8, hd8, hbl8'⟩
    have hbl8 := hbl7.trans (hbl8'.mono hbl7.size)
    have hg8' := Lib.hid (Nat.le_trans hbl7.size hg8)
    have etag : Hid (Sha.sha (X ++ D) = Keyed.tag k m) := by
      show _ = _
      rw [← hX'.out, ← hD'.out, ← hY'.out]
      exact hET.out.symm
    have hn8' := Lib.hid hn8
    have hd8' := Lib.hid hd8
    clear hn8 hd8 hg8 hr7 hbl8' hbl7 hbl6
    go_wp2_with fail
    go_ret
    exact ⟨g8, n8, c8, by rw [hn8'.out, etag.out], rfl, hg8'.out, etag.out ▸ hd8'.out, hbl8⟩
end Go.Proofs.YtlofgcglnpjceaaDoor

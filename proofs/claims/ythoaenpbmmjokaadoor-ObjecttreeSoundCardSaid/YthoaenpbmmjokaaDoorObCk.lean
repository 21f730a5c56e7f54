/-
  Check, walked.
-/
import Derived.Test.YthoaenpbmmjokaaDoorObSt
namespace Ob
/-- The number of the first q bytes. -/
def pre (s : List UInt8) : Nat → Nat
  | 0 => 0
  | q + 1 => pre s q * 256 + (s.getD q 0).toNat
theorem pre_four (s : List UInt8) : pre s 4 = val4 s := by
  unfold val4
  simp only [pre]
  omega
theorem pre_lt (s : List UInt8) : ∀ q, q ≤ 3 → pre s q < 16777216
  | 0, _ => by simp [pre]
  | 1, _ => by have := (s.getD 0 0).toNat_lt; simp only [pre]; omega
  | 2, _ => by have := (s.getD 0 0).toNat_lt; have := (s.getD 1 0).toNat_lt; simp only [pre]; omega
  | 3, _ => by have := (s.getD 0 0).toNat_lt; have := (s.getD 1 0).toNat_lt; have := (s.getD 2 0).toNat_lt; simp only [pre]; omega
  | q + 4, h => by omega
theorem startP_facts {x : It} {d : List UInt8} {tk st : List (List UInt8)} (h : startP x = some (d, tk, st)) : d.length = 32 ∧ st.length ≤ x.path.length ∧ ∀ s ∈ st, s ∈ x.path := by
  unfold startP at h
  split at h
  · cases h
    exact ⟨Sha.length_sha _, Nat.le_refl _, fun s h => h⟩
  · split at h
    · split at h
      · cases h
        exact ⟨Sha.length_sha _, Nat.zero_le _, fun s h => by cases h⟩
      · split at h
        · cases h
          exact ⟨Sha.length_sha _, by simp, fun s h => List.dropLast_subset _ h⟩
        · cases h
    · cases h
theorem check_none {root : List UInt8} {x : It} (h : followP x = none) : checkP root x = false := by
  unfold checkP
  rw [h]
theorem check_some {root d : List UInt8} {x : It} {tk : List (List UInt8)} (h : followP x = some (d, tk)) : checkP root x = (d == root) := by
  unfold checkP
  rw [h]
end Ob
namespace Go.Pl
theorem or_byte (P V : Nat) (hP : P < 16777216) (hV : V < 256) : bits BinOp.or IntKind.i64 ((P : Int) * 256) (V : Int) = ((P * 256 + V : Nat) : Int) := by
  have e : (P : Int) * 256 = ((P * 256 : Nat) : Int) := by omega
  rw [e]
  have h1 : (BitVec.ofInt 64 ((P * 256 : Nat) : Int)).toNat = P * 256 := by
    rw [BitVec.ofInt_natCast, BitVec.toNat_ofNat]; exact Nat.mod_eq_of_lt (by omega)
  have h2 : (BitVec.ofInt 64 (V : Int)).toNat = V := by
    rw [BitVec.ofInt_natCast, BitVec.toNat_ofNat]; exact Nat.mod_eq_of_lt (by omega)
  show IntKind.i64.wrap ((BitVec.ofInt 64 ((P * 256 : Nat) : Int) ||| BitVec.ofInt 64 (V : Int)).toNat : Int) = _
  have h3 : P * 256 ||| V = P * 256 + V := by
    have := Nat.shiftLeft_add_eq_or_of_lt (i := 8) (b := V) (by omega) P
    rw [Nat.shiftLeft_eq, show (2 : Nat) ^ 8 = 256 from rfl] at this
    exact this.symm
  rw [BitVec.toNat_or, h1, h2, h3, IntKind.wrap_i64]
  omega
end Go.Pl
namespace Go.Proofs.YthoaenpbmmjokaaDoor
open Go.RowKit Go.Pl
set_option maxRecDepth 100000 in
set_option maxHeartbeats 1000000 in
theorem chk_any (w : World) (hK : Kst w) {x : Ob.It} {A B W : Option Addr} {n c m d wn wc : Nat} {root : List UInt8} (hW : Rd w (fun _ => True) W wn wc root) (hA : Rd w (fun _ => True) A n c x.content) (hB : RdS w (fun _ => True) B m d x.path) (hk : x.key.length ≤ 100000) (hc : x.content.length ≤ 1000000) (hm : x.path.length ≤ 1000) (hp : ∀ p ∈ x.path, p.length ≤ 1000000) :
    Calls Tryd.prog 15 #[.slice W wn wc, .agg #[.string ⟨x.key.toArray⟩, .bool x.present, .slice A n c, .slice B m d]] w fun e w' => e = .returned (.bool (Ob.checkP root x)) ∧ Below w.heap.size w w' := by
  obtain ⟨w1, hw1⟩ : ∃ v, w.alloc (.cells #[.string ⟨x.key.toArray⟩, .bool x.present, .slice A n c, .slice B m d] 26) = v := ⟨_, rfl⟩
  have hG1 : Blk w1 w.heap.size 26 #[.string ⟨x.key.toArray⟩, .bool x.present, .slice A n c, .slice B m d] := by rw [← hw1]; exact Blk.new' rfl
  have hb1 : Below w.heap.size w w1 := by rw [← hw1]; exact (Below.refl _ _).alloc (Nat.le_refl _) _
  have hf1 : Fr (fun _ => False) w w1 := Fr.of_below hb1
  have hsz : (⟨x.key.toArray⟩ : ByteArray).size = x.key.length := by simp [ByteArray.size]
  have hW1 := Lib.hid (hW.fr hf1 (fun _ _ h => h))
  have hA1 := Lib.hid (hA.fr hf1 (fun _ _ h => h))
  have hB1 := Lib.hid (hB.fr hf1 (fun _ _ h => h))
  have hb1d := Lib.hid hb1
  have hw1d := Lib.hid hw1
  have hGd := Lib.hid hG1
  have g0 := (hG1.cell 0).trans rfl
  have g1 := (hG1.cell 1).trans rfl
  have g2 := (hG1.cell 2).trans rfl
  have g3 := (hG1.cell 3).trans rfl
  have hkd := Lib.hid hk
  have hcd := Lib.hid hc
  have hmd := Lib.hid hm
  have hpd := Lib.hid hp
  clear hW hA hB hk hc hm hp hw1 hG1 hb1 hf1
  go_enter Tryd.func15, Tryd.ntmps15
  go_upto_region 1 with fail
  rw [hw1d.out]
  obtain ⟨G, hG⟩ : ∃ G, w.heap.size = G := ⟨_, rfl⟩
  have hGG := Lib.hid hG
  rw [hG] at g0 g1 g2 g3 hGd ⊢
  clear hG
  by_cases hkl : x.key.length ≤ 65536
  · have hkI : decide (65536 < x.key.length) = false := by simp; omega
    have hkJ : decide (65536 < (x.key.length : Int)) = false := by simp; omega
    have hkld := Lib.hid hkl
    clear hkl
    go_wp2_with fail
    refine (start_any w1 (hK.below hb1d.out hK.pos) hA1.out hB1.out hkd.out hcd.out hmd.out hpd.out).mono ?_
    rintro e w3 ⟨hb3, hpost⟩
    have hb3d : Hid (Below w.heap.size w w3) := hb1d.out.trans (hb3.mono hb1d.out.size)
    have kG3 : Hid (Blk w3 G 26 #[.string ⟨x.key.toArray⟩, .bool x.present, .slice A n c, .slice B m d]) := hGd.out.below hb3 hGd.out.lt
    have hW3 : Hid (Rd w3 (fun _ => True) W wn wc root) := hW1.out.fr (Fr.of_below (F := fun _ => False) hb3) (fun _ _ h => h)
    clear hb3 g0 g1 g2 g3
    cases hst : Ob.startP x with
    | none =>
      rw [hst] at hpost
      obtain rfl : e = .returned (.tuple #[.slice none 0 0, .slice none 0 0, .bool false]) := hpost
      have hF : Hid (Ob.checkP root x = false) := Ob.check_none (by unfold Ob.followP; rw [if_pos hkld.out, hst])
      clear hst
      go_wp2_with fail
      go_ret
      exact ⟨by rw [hF.out]; rfl, hb3d.out⟩
    | some y =>
      obtain ⟨d0, tk0, st⟩ := y
      rw [hst] at hpost
      obtain ⟨A5, m5, c5, B5, k, e5, rfl, hr5, hs5⟩ : ∃ A m c B k e', e = .returned (.tuple #[.slice A m c, .slice B k e', .bool true]) ∧ Rd w3 (fun _ => True) A m c d0 ∧ RdS w3 (fun _ => True) B k e' st := hpost
      have hFol : Hid (Ob.followP x = Ob.climb x.key st.reverse 4294967296 d0 tk0) := by show _ = _; unfold Ob.followP; rw [if_pos hkld.out, hst]
      have hkst : Hid (k = st.length) := hs5.len
      have hr5d := Lib.hid hr5
      have hs5d := Lib.hid hs5
      have hd0 : Hid (d0.length = 32) := (Ob.startP_facts hst).1
      have hstl : Hid (st.length ≤ 1000 ∧ ∀ s ∈ st, s.length ≤ 1000000) := ⟨by have := (Ob.startP_facts hst).2.1; have := hmd.out; omega, fun s h => hpd.out s ((Ob.startP_facts hst).2.2 s h)⟩
      have hk1000 : k ≤ 1000 := by have := hkst.out; have := hstl.out.1; omega
      clear hst hr5 hs5 hsz hkI hkJ hB1 hA1
      go_wp2_with fail
      go_loopw [5, 8, 9] (fun t5 t8 t9 wr => ∃ (j ab : Nat) (dg : List UInt8) (tk : List (List UInt8)) (A' : Option Addr) (n' c' : Nat), j ≤ k ∧ t9 = .int .i64 ((j : Int) - 1) ∧ ab ≤ 4294967296 ∧ t8 = .int .i64 ab ∧ dg.length = 32 ∧ t5 = .slice A' n' c' ∧ Rd wr (fun _ => True) A' n' c' dg ∧
        Ob.climb x.key (st.take j).reverse ab dg tk = Ob.climb x.key st.reverse 4294967296 d0 tk0 ∧ Ab w3 wr) (fun _ _ t9 _ => (intOf t9 + 1).toNat)
      case atStart => exact ⟨k, 4294967296, d0, tk0, A5, m5, c5, Nat.le_refl _, rfl, Nat.le_refl _, rfl, hd0.out, rfl, hr5d.out, by rw [hkst.out, List.take_length], Ab.refl _⟩
      case round =>
        obtain ⟨j, ab, dg, tk, A', n', c', hj, rfl, hab, rfl, hdg, rfl, hdr, hcl, hwr⟩ := hrel
        have hjd := Lib.hid hj
        have habd := Lib.hid hab
        have hdgd := Lib.hid hdg
        have hdrd := Lib.hid hdr
        have hcld := Lib.hid hcl
        have hwrd := Lib.hid hwr
        have hbr : Hid (Below w.heap.size w wr) := hb3d.out.trans (hwr.mono hb3d.out.size)
        have kGr := kG3.out.below hwr kG3.out.lt
        have g0 := (kGr.cell 0).trans rfl
        clear hdg hdr hcl hwr kGr
        cases j with
        | zero =>
          have hz : ((0 : Nat) : Int) - 1 = -1 := rfl
          rw [hz]
          have hF : Hid (Ob.checkP root x = (dg == root)) := Ob.check_some (tk := tk) (by rw [hFol.out, ← hcld.out]; rfl)
          clear hz g0 hj hab
          go_wp2_with fail
          refine (bequal_any wr hdrd.out (hW3.out.ab hwrd.out)).mono ?_
          rintro e w9 ⟨rfl, rfl⟩
          go_wp2_with fail
          go_ret
          exact ⟨by rw [hF.out]; rfl, hbr.out⟩
        | succ j =>
          have hz : ((j + 1 : Nat) : Int) - 1 = (j : Int) := by omega
          rw [hz]
          have hjk : j < k := by omega
          have hjkI : (j : Int) < (k : Int) := by omega
          obtain ⟨s, hs⟩ : ∃ s, st[j]? = some s := ⟨_, List.getElem?_eq_getElem (by have := hkst.out; omega)⟩
          obtain ⟨b6, o6, s6, hBe, -, hbl6, ⟨A6, n6, c6, rfl, r6⟩, d6⟩ := hs5d.out.get hs
          subst hBe
          have e6 := (hwrd.out.cell (p := ⟨b6, o6 + j, none⟩) hbl6).trans d6
          have hn6 : Hid (n6 = s.length) := r6.len
          have hlc6 : Hid (n6 ≤ c6 ∧ c6 ≤ maxLen) := ⟨r6.le, r6.max⟩
          have hstep : Hid (Ob.climb x.key st.reverse 4294967296 d0 tk0 = if s.length = 36 ∧ Ob.val4 s < ab then Ob.climb x.key (st.take j).reverse (Ob.val4 s) (Sha.sha (Ob.stepB x.key s dg)) (tk ++ [Ob.stepB x.key s dg]) else none) := by
            show _ = _
            rw [← hcld.out, List.take_succ_eq_append_getElem (by have := hkst.out; omega)]
            have hse : st[j]'(by have := hkst.out; omega) = s := by
              have := List.getElem?_eq_some_iff.1 hs
              exact this.2
            rw [hse, List.reverse_append]
            rfl
          clear hz hs d6 hj
          by_cases h36 : n6 = 36
          · have h1 : decide (n6 = 36) = true := by simpa using h36
            have h2 : ((n6 : Int) != 36) = false := by rw [h36]; rfl
            have h3 : ((n6 : Int) == 36) = true := by rw [h36]; rfl
            obtain ⟨b7, o7, hA6, -, hbl7, hc7⟩ := r6.at_ (by omega)
            subst hA6
            have h36d := Lib.hid h36
            have h4c : 4 ≤ c6 := by have := hlc6.out; omega
            have r6d := Lib.hid r6
            have hcells : Hid (∀ q, q < 4 → wr.cell? ⟨b7, o7 + q, none⟩ = some (.int .u8 ((s.getD q 0).toNat : Int))) := fun q hq => (hwrd.out.cell (p := ⟨b7, o7 + q, none⟩) hbl7).trans (hc7 q (by omega))
            clear h36 hc7 r6
            go_wp2_with fail
            have h4n : 4 ≤ n6 := by have := h36d.out; omega
            go_loopw [10, 44] (fun t10 t44 wr2 => ∃ q : Nat, q ≤ 4 ∧ t44 = .int .i64 q ∧ t10 = .int .i64 (Ob.pre s q : Nat) ∧ wr = wr2) (fun _ t44 _ => 4 - (intOf t44).toNat)
            case atStart => exact ⟨0, by omega, rfl, rfl, rfl⟩
            case round =>
              obtain ⟨q, hq, rfl, rfl, rfl⟩ := hrel
              by_cases hq4 : q < 4
              · have hqI : (q : Int) < 4 := by omega
                have hcq := hcells.out q hq4
                have hplt := Ob.pre_lt s q (by omega)
                have hblt := (s.getD q 0).toNat_lt
                have hpre : Hid (Ob.pre s (q + 1) = Ob.pre s q * 256 + (s.getD q 0).toNat) := rfl
                obtain ⟨P, hP⟩ : ∃ P, Ob.pre s q = P := ⟨_, rfl⟩
                obtain ⟨V, hV⟩ : ∃ V, (s.getD q 0).toNat = V := ⟨_, rfl⟩
                rw [hP, hV] at hpre
                rw [hP] at hplt ⊢
                rw [hV] at hblt hcq
                have hor := or_byte P V hplt hblt
                clear hP hV hq
                go_wp2_with fail
                go_roundw
                case rel => exact ⟨q + 1, by omega, by go_num, by rw [hpre.out]; simp, trivial⟩
                case measure => simp [intOf]; omega
              · obtain rfl : q = 4 := by omega
                rw [Ob.pre_four]
                obtain ⟨Z, hZ⟩ : ∃ Z, Ob.val4 s = Z := ⟨_, rfl⟩
                have hZlt : Z < 4294967296 := by rw [← hZ]; exact Ob.val4_lt s
                rw [hZ] at hstep ⊢
                have hZd := Lib.hid hZ
                clear hq hq4 hZ
                by_cases hlt : Z < ab
                · have hltI : decide (ab ≤ Z) = false := by simp; omega
                  have hltJ : decide ((ab : Int) ≤ (Z : Int)) = false := by simp; omega
                  have hltd := Lib.hid hlt
                  clear hlt
                  go_wp2_with fail
                  refine (bit_any wr x.key Z (by have := hkd.out; omega) (by omega)).mono ?_
                  rintro e w4 ⟨rfl, rfl⟩
                  have hc4 : ¬ c6 = 4 := by have := hlc6.out; have := h36d.out; omega
                  have hc4I : ¬ (c6 : Int) = 4 := by omega
                  have rD : Hid (Rd wr (fun _ => True) (some ⟨b7, o7 + 4, none⟩) (n6 - 4) (c6 - 4) (s.drop 4)) := by
                    have h := (r6d.out.ab hwrd.out).from_ h4n
                    rw [if_neg hc4, Option.map_some, add_none] at h
                    exact h
                  have hsl : Hid ((s.drop 4).length ≤ 1000000) := by show _ ≤ _; rw [List.length_drop]; have := hn6.out; have := h36d.out; omega
                  have hdl : Hid (dg.length ≤ 1000000) := by show _ ≤ _; have := hdgd.out; omega
                  by_cases hb0 : Ob.bitN x.key Z = 0
                  · have hb0I : ((Ob.bitN x.key Z : Nat) : Int) = 0 := by omega
                    go_wp2_with fail
                    refine (node_any wr (hK.below hbr.out hK.pos) Z (by omega) hdrd.out rD.out hdl.out hsl.out).mono ?_
                    rintro e w5 ⟨A8, n8, c8, rfl, hr8, hb8⟩
                    have hsB : Hid (Ob.stepB x.key s dg = Ob.nodeB Z dg (s.drop 4)) := by show _ = _; unfold Ob.stepB; rw [hZd.out, if_pos hb0]
                    have hr8d := Lib.hid hr8
                    have hab8 : Hid (Ab wr w5) := hb8
                    clear hr8 hb8
                    go_wp2_with fail
                    go_roundw
                    case rel =>
                      refine ⟨j, Z, Sha.sha (Ob.nodeB Z dg (s.drop 4)), tk ++ [Ob.nodeB Z dg (s.drop 4)], _, _, _, by omega, rfl, by omega, rfl, Sha.length_sha _, rfl, hr8d.out.mono (fun _ _ _ => trivial), ?_, Ab.trans _ _ _ hwrd.out hab8.out⟩
                      rw [hstep.out, if_pos ⟨by have := hn6.out; have := h36d.out; omega, hltd.out⟩, hsB.out]
                    case measure => simp [intOf]
                  · have hb0I : ¬ ((Ob.bitN x.key Z : Nat) : Int) = 0 := by omega
                    go_wp2_with fail
                    refine (node_any wr (hK.below hbr.out hK.pos) Z (by omega) rD.out hdrd.out hsl.out hdl.out).mono ?_
                    rintro e w5 ⟨A8, n8, c8, rfl, hr8, hb8⟩
                    have hsB : Hid (Ob.stepB x.key s dg = Ob.nodeB Z (s.drop 4) dg) := by show _ = _; unfold Ob.stepB; rw [hZd.out, if_neg hb0]
                    have hr8d := Lib.hid hr8
                    have hab8 : Hid (Ab wr w5) := hb8
                    clear hr8 hb8
                    go_wp2_with fail
                    go_roundw
                    case rel =>
                      refine ⟨j, Z, Sha.sha (Ob.nodeB Z (s.drop 4) dg), tk ++ [Ob.nodeB Z (s.drop 4) dg], _, _, _, by omega, rfl, by omega, rfl, Sha.length_sha _, rfl, hr8d.out.mono (fun _ _ _ => trivial), ?_, Ab.trans _ _ _ hwrd.out hab8.out⟩
                      rw [hstep.out, if_pos ⟨by have := hn6.out; have := h36d.out; omega, hltd.out⟩, hsB.out]
                    case measure => simp [intOf]
                · have hltI : decide (ab ≤ Z) = true := by simp; omega
                  have hltJ : decide ((ab : Int) ≤ (Z : Int)) = true := by simp; omega
                  have hF : Hid (Ob.checkP root x = false) := Ob.check_none (by rw [hFol.out, hstep.out, if_neg (fun h => hlt h.2)])
                  clear hlt
                  go_wp2_with fail
                  go_ret
                  exact ⟨by rw [hF.out]; rfl, hbr.out⟩
          · have h1 : decide (n6 = 36) = false := by simpa using h36
            have h2 : ((n6 : Int) != 36) = true := by simp; omega
            have h3 : ((n6 : Int) == 36) = false := by simp; omega
            have hF : Hid (Ob.checkP root x = false) := Ob.check_none (by rw [hFol.out, hstep.out, if_neg (fun h => h36 (by have := hn6.out; omega))])
            clear h36 hab
            go_wp2_with fail
            go_ret
            exact ⟨by rw [hF.out]; rfl, hbr.out⟩
  · have hkI : decide (65536 < x.key.length) = true := by simp; omega
    have hkJ : decide (65536 < (x.key.length : Int)) = true := by simp; omega
    have hF : Hid (Ob.checkP root x = false) := Ob.check_none (by unfold Ob.followP; rw [if_neg hkl])
    clear hkl
    go_wp2_with fail
    go_ret
    exact ⟨by rw [hF.out]; rfl, hb1d.out⟩
end Go.Proofs.YthoaenpbmmjokaaDoor

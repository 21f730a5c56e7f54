/-
  First differences, walked.
-/
import Derived.Test.YthoaenpbmmjokaaDoorObBit
import Derived.Deep.QuietTactic
import Derived.BigQuiet
namespace Go.Proofs.YthoaenpbmmjokaaDoor
open Go.RowKit Go.Pl
set_option maxRecDepth 100000 in
set_option maxHeartbeats 4000000 in
theorem split_any (w : World) (a b : Ob.Key) (ha : a.length ≤ 100000) (hb : b.length ≤ 100000) :
    Calls Tryd.prog 23 #[.string ⟨a.toArray⟩, .string ⟨b.toArray⟩] w fun e w' => e = .returned (.int .i64 (Ob.split a b)) ∧ Below w.heap.size w w' := by
  have hsa : (⟨a.toArray⟩ : ByteArray).size = a.length := by simp [ByteArray.size]
  have hsb : (⟨b.toArray⟩ : ByteArray).size = b.length := by simp [ByteArray.size]
  have hll := Ob.lcp_le a b
  obtain ⟨N, hN⟩ : ∃ N, Ob.lcp a b = N := ⟨_, rfl⟩
  rw [hN] at hll
  have hNd := Lib.hid hN
  clear hN
  go_enter Tryd.func23, Tryd.ntmps23
  go_wp2_with fail
  go_loopw [5] (fun t5 wr => ∃ n : Nat, n ≤ N ∧ t5 = .int .i64 n ∧ Below w.heap.size w wr) (fun t5 _ => N - (intOf t5).toNat)
  case atStart => exact ⟨0, by omega, rfl, Below.refl _ _⟩
  case round =>
    obtain ⟨n, hn, rfl, hbw⟩ := hrel
    have hbd := Lib.hid hbw
    clear hbw
    by_cases hlt : n < N
    · have e := Ob.lcp_get (a := a) (b := b) (i := n) (by rw [hNd.out]; exact hlt)
      have hla : n < a.length := by omega
      have hlb : n < b.length := by omega
      have hla' : n < (⟨a.toArray⟩ : ByteArray).size := by rw [hsa]; exact hla
      have hlb' : n < (⟨b.toArray⟩ : ByteArray).size := by rw [hsb]; exact hlb
      have ex : (⟨b.toArray⟩ : ByteArray)[n] = (⟨a.toArray⟩ : ByteArray)[n] := by
        rw [bytes_at a hla' hla, bytes_at b hlb' hlb, List.getD_eq_getElem?_getD, List.getD_eq_getElem?_getD, e]
      obtain ⟨x, hx⟩ : ∃ x, (⟨a.toArray⟩ : ByteArray)[n] = x := ⟨_, rfl⟩
      rw [hx] at ex
      have hlaI : (n : Int) < (a.length : Int) := by omega
      have hlbI : (n : Int) < (b.length : Int) := by omega
      have f1 : decide (n < a.length) = true := decide_eq_true hla
      have f2 : decide (n < b.length) = true := decide_eq_true hlb
      have f3 : ((x.toNat : Int) == (x.toNat : Int)) = true := by simp
      clear e
      go_wp2_with fail
      go_quiet (fail)
      go_wp2_with fail
      go_roundw
      case rel => exact ⟨n + 1, by omega, by go_num, hbd.out.trans (((Fr.refl (fun _ => False) _).drewN _).below (fun _ h => h.elim) hbd.out.size)⟩
      case measure => simp [intOf]; omega
    · obtain rfl : n = N := by omega
      clear hlt hn
      by_cases c1 : n < a.length
      · have hlaI : (n : Int) < (a.length : Int) := by omega
        have f1 : decide (n < a.length) = true := decide_eq_true c1
        have hab : Hid (a ≠ b ∨ b.length ≤ n) := by
          by_cases c2 : n < b.length
          · exact .inl (fun e => by subst e; have := hNd.out; rw [Ob.lcp_self] at this; omega)
          · exact .inr (by omega)
        by_cases c2 : n < b.length
        · have hlbI : (n : Int) < (b.length : Int) := by omega
          have f2 : decide (n < b.length) = true := decide_eq_true c2
          have hne : Hid (a ≠ b) := (hab.out).resolve_right (by omega)
          have hla' : n < (⟨a.toArray⟩ : ByteArray).size := by rw [hsa]; exact c1
          have hlb' : n < (⟨b.toArray⟩ : ByteArray).size := by rw [hsb]; exact c2
          have hxy := Ob.lcp_end (a := a) (b := b) (x := a[n]) (y := b[n]) (by rw [hNd.out]; exact List.getElem?_eq_getElem c1) (by rw [hNd.out]; exact List.getElem?_eq_getElem c2)
          have ea : (⟨a.toArray⟩ : ByteArray)[n] = a[n] := rfl
          have eb : (⟨b.toArray⟩ : ByteArray)[n] = b[n] := rfl
          obtain ⟨x, hx⟩ : ∃ x, a[n] = x := ⟨_, rfl⟩
          obtain ⟨y, hy⟩ : ∃ y, b[n] = y := ⟨_, rfl⟩
          rw [hx] at hxy ea
          rw [hy] at hxy eb
          have f3 : ((x.toNat : Int) == (y.toNat : Int)) = false := by
            have : x.toNat ≠ y.toNat := fun e => hxy (UInt8.toNat_inj.1 e)
            simp; omega
          have g1 : ((n : Int) == (a.length : Int)) = false := by simp; omega
          clear hx hy hxy
          go_wp2_with fail
          go_quiet (fail)
          clear ea eb f3
          have hsp := Ob.split_spec hne.out
          obtain ⟨D, hD⟩ : ∃ D, Ob.near a b (Ob.lcp a b) = D := ⟨_, rfl⟩
          have hspl : Ob.splitN a b = 9 * n + D := by unfold Ob.splitN; rw [hD, hNd.out]
          have hsv : Hid (Ob.split a b = ((9 * n + D : Nat) : Int)) := by
            show _ = _
            rw [Ob.split_of hne.out hsp.1, hspl]
          have hD9 : D < 9 := by rw [← hD]; exact hsp.2
          have hbef : Hid (∀ i, i < D → Ob.bitN a (9 * n + i) = Ob.bitN b (9 * n + i)) := fun i hi => hsp.1.1 _ (by rw [hspl]; omega)
          have hdif : Hid (Ob.bitN a (9 * n + D) ≠ Ob.bitN b (9 * n + D)) := by
            have h8 := hsp.1.2
            rw [hspl] at h8
            exact h8
          have hn5 : n ≤ 100000 := by omega
          clear hsp hD hspl
          go_wp2_with fail
          go_loopw [38] (fun t38 wr => ∃ i : Nat, i ≤ D ∧ t38 = .int .i64 i ∧ Below w.heap.size w wr) (fun t38 _ => D - (intOf t38).toNat)
          case atStart => exact ⟨0, by omega, rfl, hbd.out.trans (((Fr.refl (fun _ => False) _).drewN _).below (fun _ h => h.elim) hbd.out.size)⟩
          case round =>
            obtain ⟨i, hi, rfl, hbw⟩ := hrel
            have hb2 := Lib.hid hbw
            clear hbw
            have hi9 : (i : Int) < 9 := by omega
            obtain ⟨M, hM⟩ : ∃ M : Nat, 9 * n + i = M := ⟨_, rfl⟩
            have hMI : 9 * (n : Int) + (i : Int) = (M : Int) := by omega
            have hMl : M ≤ 1000000 := by omega
            have hMd := Lib.hid hM
            clear hM
            by_cases hid : i < D
            · have hsame := hbef.out i hid
              rw [hMd.out] at hsame
              obtain ⟨x, hx⟩ : ∃ x, Ob.bitN a M = x := ⟨_, rfl⟩
              rw [hx] at hsame
              have hxd := Lib.hid hx
              have hyd := Lib.hid hsame.symm
              have f9 : ((x : Int) != (x : Int)) = false := by simp
              clear hx hsame
              go_wp2_with fail
              refine (bit_any _ a M (by omega) (by omega)).mono ?_
              rw [hxd.out]
              rintro e w' ⟨rfl, rfl⟩
              go_wp2_with fail
              refine (bit_any _ b M (by omega) (by omega)).mono ?_
              rw [hyd.out]
              rintro e w' ⟨rfl, rfl⟩
              go_wp2_with fail
              go_roundw
              case rel => exact ⟨i + 1, by omega, by go_num, hb2.out⟩
              case measure => simp [intOf]; omega
            · obtain rfl : i = D := by omega
              have hdd := hdif.out
              rw [hMd.out] at hdd
              obtain ⟨x, hx⟩ : ∃ x, Ob.bitN a M = x := ⟨_, rfl⟩
              obtain ⟨y, hy⟩ : ∃ y, Ob.bitN b M = y := ⟨_, rfl⟩
              rw [hx, hy] at hdd
              have hxd := Lib.hid hx
              have hyd := Lib.hid hy
              have f9 : ((x : Int) != (y : Int)) = true := by simp; omega
              clear hx hy hdd
              go_wp2_with fail
              refine (bit_any _ a M (by omega) (by omega)).mono ?_
              rw [hxd.out]
              rintro e w' ⟨rfl, rfl⟩
              go_wp2_with fail
              refine (bit_any _ b M (by omega) (by omega)).mono ?_
              rw [hyd.out]
              rintro e w' ⟨rfl, rfl⟩
              go_wp2_with fail
              go_ret
              exact ⟨by rw [hsv.out, hMd.out]; rfl, hb2.out⟩
        · have hlbI : ¬ (n : Int) < (b.length : Int) := by omega
          have f2 : decide (n < b.length) = false := decide_eq_false c2
          have hne : Hid (a ≠ b) := fun e => by rw [e] at c1; omega
          have g1 : ((n : Int) == (a.length : Int)) = false := by simp; omega
          go_wp2_with fail
          go_quiet (fail)
          have hsp := Ob.split_spec hne.out
          obtain ⟨D, hD⟩ : ∃ D, Ob.near a b (Ob.lcp a b) = D := ⟨_, rfl⟩
          have hspl : Ob.splitN a b = 9 * n + D := by unfold Ob.splitN; rw [hD, hNd.out]
          have hsv : Hid (Ob.split a b = ((9 * n + D : Nat) : Int)) := by
            show _ = _
            rw [Ob.split_of hne.out hsp.1, hspl]
          have hD9 : D < 9 := by rw [← hD]; exact hsp.2
          have hbef : Hid (∀ i, i < D → Ob.bitN a (9 * n + i) = Ob.bitN b (9 * n + i)) := fun i hi => hsp.1.1 _ (by rw [hspl]; omega)
          have hdif : Hid (Ob.bitN a (9 * n + D) ≠ Ob.bitN b (9 * n + D)) := by
            have h8 := hsp.1.2
            rw [hspl] at h8
            exact h8
          have hn5 : n ≤ 100000 := by omega
          clear hsp hD hspl
          go_wp2_with fail
          go_loopw [38] (fun t38 wr => ∃ i : Nat, i ≤ D ∧ t38 = .int .i64 i ∧ Below w.heap.size w wr) (fun t38 _ => D - (intOf t38).toNat)
          case atStart => exact ⟨0, by omega, rfl, hbd.out.trans (((Fr.refl (fun _ => False) _).drewN _).below (fun _ h => h.elim) hbd.out.size)⟩
          case round =>
            obtain ⟨i, hi, rfl, hbw⟩ := hrel
            have hb2 := Lib.hid hbw
            clear hbw
            have hi9 : (i : Int) < 9 := by omega
            obtain ⟨M, hM⟩ : ∃ M : Nat, 9 * n + i = M := ⟨_, rfl⟩
            have hMI : 9 * (n : Int) + (i : Int) = (M : Int) := by omega
            have hMl : M ≤ 1000000 := by omega
            have hMd := Lib.hid hM
            clear hM
            by_cases hid : i < D
            · have hsame := hbef.out i hid
              rw [hMd.out] at hsame
              obtain ⟨x, hx⟩ : ∃ x, Ob.bitN a M = x := ⟨_, rfl⟩
              rw [hx] at hsame
              have hxd := Lib.hid hx
              have hyd := Lib.hid hsame.symm
              have f9 : ((x : Int) != (x : Int)) = false := by simp
              clear hx hsame
              go_wp2_with fail
              refine (bit_any _ a M (by omega) (by omega)).mono ?_
              rw [hxd.out]
              rintro e w' ⟨rfl, rfl⟩
              go_wp2_with fail
              refine (bit_any _ b M (by omega) (by omega)).mono ?_
              rw [hyd.out]
              rintro e w' ⟨rfl, rfl⟩
              go_wp2_with fail
              go_roundw
              case rel => exact ⟨i + 1, by omega, by go_num, hb2.out⟩
              case measure => simp [intOf]; omega
            · obtain rfl : i = D := by omega
              have hdd := hdif.out
              rw [hMd.out] at hdd
              obtain ⟨x, hx⟩ : ∃ x, Ob.bitN a M = x := ⟨_, rfl⟩
              obtain ⟨y, hy⟩ : ∃ y, Ob.bitN b M = y := ⟨_, rfl⟩
              rw [hx, hy] at hdd
              have hxd := Lib.hid hx
              have hyd := Lib.hid hy
              have f9 : ((x : Int) != (y : Int)) = true := by simp; omega
              clear hx hy hdd
              go_wp2_with fail
              refine (bit_any _ a M (by omega) (by omega)).mono ?_
              rw [hxd.out]
              rintro e w' ⟨rfl, rfl⟩
              go_wp2_with fail
              refine (bit_any _ b M (by omega) (by omega)).mono ?_
              rw [hyd.out]
              rintro e w' ⟨rfl, rfl⟩
              go_wp2_with fail
              go_ret
              exact ⟨by rw [hsv.out, hMd.out]; rfl, hb2.out⟩
      · have hlaI : ¬ (n : Int) < (a.length : Int) := by omega
        have f1 : decide (n < a.length) = false := decide_eq_false c1
        have hna : Hid (n = a.length) := by show _ = _; omega
        have g0 : ((n : Int) == (a.length : Int)) = true := by simp; omega
        by_cases c3 : n = b.length
        · have hab : Hid (a = b) := Ob.lcp_both (by rw [hNd.out]; exact hna.out) (by rw [hNd.out]; exact c3)
          have g2 : ((n : Int) == (b.length : Int)) = true := by simp [c3]
          clear c3
          go_wp2_with fail
          go_quiet (fail)
          go_wp2_with fail
          go_ret
          exact ⟨by rw [hab.out, Ob.split_self]; rfl, hbd.out.trans (((Fr.refl (fun _ => False) _).drewN _).below (fun _ h => h.elim) hbd.out.size)⟩
        · have hne : Hid (a ≠ b) := fun e => c3 (by rw [← e]; exact hna.out)
          have g2 : ((n : Int) == (b.length : Int)) = false := by simpa using fun e : (n : Int) = (b.length : Int) => c3 (by omega)
          clear c3
          go_wp2_with fail
          go_quiet (fail)
          have hsp := Ob.split_spec hne.out
          obtain ⟨D, hD⟩ : ∃ D, Ob.near a b (Ob.lcp a b) = D := ⟨_, rfl⟩
          have hspl : Ob.splitN a b = 9 * n + D := by unfold Ob.splitN; rw [hD, hNd.out]
          have hsv : Hid (Ob.split a b = ((9 * n + D : Nat) : Int)) := by
            show _ = _
            rw [Ob.split_of hne.out hsp.1, hspl]
          have hD9 : D < 9 := by rw [← hD]; exact hsp.2
          have hbef : Hid (∀ i, i < D → Ob.bitN a (9 * n + i) = Ob.bitN b (9 * n + i)) := fun i hi => hsp.1.1 _ (by rw [hspl]; omega)
          have hdif : Hid (Ob.bitN a (9 * n + D) ≠ Ob.bitN b (9 * n + D)) := by
            have h8 := hsp.1.2
            rw [hspl] at h8
            exact h8
          have hn5 : n ≤ 100000 := by omega
          clear hsp hD hspl
          go_wp2_with fail
          go_loopw [38] (fun t38 wr => ∃ i : Nat, i ≤ D ∧ t38 = .int .i64 i ∧ Below w.heap.size w wr) (fun t38 _ => D - (intOf t38).toNat)
          case atStart => exact ⟨0, by omega, rfl, hbd.out.trans (((Fr.refl (fun _ => False) _).drewN _).below (fun _ h => h.elim) hbd.out.size)⟩
          case round =>
            obtain ⟨i, hi, rfl, hbw⟩ := hrel
            have hb2 := Lib.hid hbw
            clear hbw
            have hi9 : (i : Int) < 9 := by omega
            obtain ⟨M, hM⟩ : ∃ M : Nat, 9 * n + i = M := ⟨_, rfl⟩
            have hMI : 9 * (n : Int) + (i : Int) = (M : Int) := by omega
            have hMl : M ≤ 1000000 := by omega
            have hMd := Lib.hid hM
            clear hM
            by_cases hid : i < D
            · have hsame := hbef.out i hid
              rw [hMd.out] at hsame
              obtain ⟨x, hx⟩ : ∃ x, Ob.bitN a M = x := ⟨_, rfl⟩
              rw [hx] at hsame
              have hxd := Lib.hid hx
              have hyd := Lib.hid hsame.symm
              have f9 : ((x : Int) != (x : Int)) = false := by simp
              clear hx hsame
              go_wp2_with fail
              refine (bit_any _ a M (by omega) (by omega)).mono ?_
              rw [hxd.out]
              rintro e w' ⟨rfl, rfl⟩
              go_wp2_with fail
              refine (bit_any _ b M (by omega) (by omega)).mono ?_
              rw [hyd.out]
              rintro e w' ⟨rfl, rfl⟩
              go_wp2_with fail
              go_roundw
              case rel => exact ⟨i + 1, by omega, by go_num, hb2.out⟩
              case measure => simp [intOf]; omega
            · obtain rfl : i = D := by omega
              have hdd := hdif.out
              rw [hMd.out] at hdd
              obtain ⟨x, hx⟩ : ∃ x, Ob.bitN a M = x := ⟨_, rfl⟩
              obtain ⟨y, hy⟩ : ∃ y, Ob.bitN b M = y := ⟨_, rfl⟩
              rw [hx, hy] at hdd
              have hxd := Lib.hid hx
              have hyd := Lib.hid hy
              have f9 : ((x : Int) != (y : Int)) = true := by simp; omega
              clear hx hy hdd
              go_wp2_with fail
              refine (bit_any _ a M (by omega) (by omega)).mono ?_
              rw [hxd.out]
              rintro e w' ⟨rfl, rfl⟩
              go_wp2_with fail
              refine (bit_any _ b M (by omega) (by omega)).mono ?_
              rw [hyd.out]
              rintro e w' ⟨rfl, rfl⟩
              go_wp2_with fail
              go_ret
              exact ⟨by rw [hsv.out, hMd.out]; rfl, hb2.out⟩
set_option maxRecDepth 100000 in
set_option maxHeartbeats 4000000 in
theorem refsplit_any (w : World) (a b : Ob.Key) (ha : a.length ≤ 100000) (hb : b.length ≤ 100000) :
    Calls Tryd.prog 24 #[.string ⟨a.toArray⟩, .string ⟨b.toArray⟩] w fun e w' => e = .returned (.int .i64 (Ob.split a b)) ∧ Below w.heap.size w w' := by
  have hsa : (⟨a.toArray⟩ : ByteArray).size = a.length := by simp [ByteArray.size]
  have hsb : (⟨b.toArray⟩ : ByteArray).size = b.length := by simp [ByteArray.size]
  have hll := Ob.lcp_le a b
  obtain ⟨N, hN⟩ : ∃ N, Ob.lcp a b = N := ⟨_, rfl⟩
  rw [hN] at hll
  have hNd := Lib.hid hN
  clear hN
  by_cases heq : a = b
  · subst heq
    have f0 : (a.toArray == a.toArray) = true := by simp
    have f01 : (a == a) = true := by simp
    go_enter Tryd.func24, Tryd.ntmps24
    go_wp2_with fail
    go_ret
    exact ⟨by rw [Ob.split_self]; rfl, Below.refl _ _⟩
  have f0 : (a.toArray == b.toArray) = false := by simpa using heq
  have f01 : (a == b) = false := by simpa using heq
  have heqd := Lib.hid heq
  clear heq
  go_enter Tryd.func24, Tryd.ntmps24
  go_wp2_with fail
  go_loopw [5] (fun t5 wr => ∃ n : Nat, n ≤ N ∧ t5 = .int .i64 n ∧ Below w.heap.size w wr) (fun t5 _ => N - (intOf t5).toNat)
  case atStart => exact ⟨0, by omega, rfl, Below.refl _ _⟩
  case round =>
    obtain ⟨n, hn, rfl, hbw⟩ := hrel
    have hbd := Lib.hid hbw
    clear hbw
    by_cases hlt : n < N
    · have e := Ob.lcp_get (a := a) (b := b) (i := n) (by rw [hNd.out]; exact hlt)
      have hla : n < a.length := by omega
      have hlb : n < b.length := by omega
      have hla' : n < (⟨a.toArray⟩ : ByteArray).size := by rw [hsa]; exact hla
      have hlb' : n < (⟨b.toArray⟩ : ByteArray).size := by rw [hsb]; exact hlb
      have ex : (⟨b.toArray⟩ : ByteArray)[n] = (⟨a.toArray⟩ : ByteArray)[n] := by
        rw [bytes_at a hla' hla, bytes_at b hlb' hlb, List.getD_eq_getElem?_getD, List.getD_eq_getElem?_getD, e]
      obtain ⟨x, hx⟩ : ∃ x, (⟨a.toArray⟩ : ByteArray)[n] = x := ⟨_, rfl⟩
      rw [hx] at ex
      have hlaI : (n : Int) < (a.length : Int) := by omega
      have hlbI : (n : Int) < (b.length : Int) := by omega
      have f1 : decide (n < a.length) = true := decide_eq_true hla
      have f2 : decide (n < b.length) = true := decide_eq_true hlb
      have f3 : ((x.toNat : Int) == (x.toNat : Int)) = true := by simp
      clear e
      go_wp2_with fail
      go_quiet (fail)
      go_wp2_with fail
      go_roundw
      case rel => exact ⟨n + 1, by omega, by go_num, hbd.out.trans (((Fr.refl (fun _ => False) _).drewN _).below (fun _ h => h.elim) hbd.out.size)⟩
      case measure => simp [intOf]; omega
    · obtain rfl : n = N := by omega
      clear hlt hn
      by_cases c1 : n < a.length
      · have hlaI : (n : Int) < (a.length : Int) := by omega
        have f1 : decide (n < a.length) = true := decide_eq_true c1
        have hab : Hid (a ≠ b ∨ b.length ≤ n) := by
          by_cases c2 : n < b.length
          · exact .inl (fun e => by subst e; have := hNd.out; rw [Ob.lcp_self] at this; omega)
          · exact .inr (by omega)
        by_cases c2 : n < b.length
        · have hlbI : (n : Int) < (b.length : Int) := by omega
          have f2 : decide (n < b.length) = true := decide_eq_true c2
          have hne : Hid (a ≠ b) := (hab.out).resolve_right (by omega)
          have hla' : n < (⟨a.toArray⟩ : ByteArray).size := by rw [hsa]; exact c1
          have hlb' : n < (⟨b.toArray⟩ : ByteArray).size := by rw [hsb]; exact c2
          have hxy := Ob.lcp_end (a := a) (b := b) (x := a[n]) (y := b[n]) (by rw [hNd.out]; exact List.getElem?_eq_getElem c1) (by rw [hNd.out]; exact List.getElem?_eq_getElem c2)
          have ea : (⟨a.toArray⟩ : ByteArray)[n] = a[n] := rfl
          have eb : (⟨b.toArray⟩ : ByteArray)[n] = b[n] := rfl
          obtain ⟨x, hx⟩ : ∃ x, a[n] = x := ⟨_, rfl⟩
          obtain ⟨y, hy⟩ : ∃ y, b[n] = y := ⟨_, rfl⟩
          rw [hx] at hxy ea
          rw [hy] at hxy eb
          have f3 : ((x.toNat : Int) == (y.toNat : Int)) = false := by
            have : x.toNat ≠ y.toNat := fun e => hxy (UInt8.toNat_inj.1 e)
            simp; omega
          have g1 : ((n : Int) == (a.length : Int)) = false := by simp; omega
          clear hx hy hxy
          go_wp2_with fail
          go_quiet (fail)
          clear ea eb f3
          have hsp := Ob.split_spec hne.out
          obtain ⟨D, hD⟩ : ∃ D, Ob.near a b (Ob.lcp a b) = D := ⟨_, rfl⟩
          have hspl : Ob.splitN a b = 9 * n + D := by unfold Ob.splitN; rw [hD, hNd.out]
          have hsv : Hid (Ob.split a b = ((9 * n + D : Nat) : Int)) := by
            show _ = _
            rw [Ob.split_of hne.out hsp.1, hspl]
          have hD9 : D < 9 := by rw [← hD]; exact hsp.2
          have hbef : Hid (∀ i, i < D → Ob.bitN a (9 * n + i) = Ob.bitN b (9 * n + i)) := fun i hi => hsp.1.1 _ (by rw [hspl]; omega)
          have hdif : Hid (Ob.bitN a (9 * n + D) ≠ Ob.bitN b (9 * n + D)) := by
            have h8 := hsp.1.2
            rw [hspl] at h8
            exact h8
          have hn5 : n ≤ 100000 := by omega
          clear hsp hD hspl
          go_wp2_with fail
          go_loopw [6] (fun t6 wr => ∃ i : Nat, i ≤ D ∧ t6 = .int .i64 ((9 * n + i : Nat) : Int) ∧ Below w.heap.size w wr) (fun t6 _ => 9 * n + D - (intOf t6).toNat)
          case atStart => exact ⟨0, by omega, by go_num, hbd.out.trans (((Fr.refl (fun _ => False) _).drewN _).below (fun _ h => h.elim) hbd.out.size)⟩
          case round =>
            obtain ⟨i, hi, rfl, hbw⟩ := hrel
            have hb2 := Lib.hid hbw
            clear hbw
            obtain ⟨M, hM⟩ : ∃ M : Nat, 9 * n + i = M := ⟨_, rfl⟩
            rw [hM]
            have hMl : M ≤ 1000000 := by omega
            have hMd := Lib.hid hM
            clear hM
            by_cases hid : i < D
            · have hsame := hbef.out i hid
              rw [hMd.out] at hsame
              obtain ⟨x, hx⟩ : ∃ x, Ob.bitN a M = x := ⟨_, rfl⟩
              rw [hx] at hsame
              have hxd := Lib.hid hx
              have hyd := Lib.hid hsame.symm
              have f9 : ((x : Int) != (x : Int)) = false := by simp
              clear hx hsame
              go_wp2_with fail
              refine (refbit_any _ a M (by omega) (by omega)).mono ?_
              rw [hxd.out]
              rintro e w' ⟨rfl, rfl⟩
              go_wp2_with fail
              refine (refbit_any _ b M (by omega) (by omega)).mono ?_
              rw [hyd.out]
              rintro e w' ⟨rfl, rfl⟩
              go_wp2_with fail
              go_roundw
              case rel => exact ⟨i + 1, by omega, by have := hMd.out; go_num, hb2.out⟩
              case measure => have := hMd.out; simp [intOf]; omega
            · obtain rfl : i = D := by omega
              have hdd := hdif.out
              rw [hMd.out] at hdd
              obtain ⟨x, hx⟩ : ∃ x, Ob.bitN a M = x := ⟨_, rfl⟩
              obtain ⟨y, hy⟩ : ∃ y, Ob.bitN b M = y := ⟨_, rfl⟩
              rw [hx, hy] at hdd
              have hxd := Lib.hid hx
              have hyd := Lib.hid hy
              have f9 : ((x : Int) != (y : Int)) = true := by simp; omega
              clear hx hy hdd
              go_wp2_with fail
              refine (refbit_any _ a M (by omega) (by omega)).mono ?_
              rw [hxd.out]
              rintro e w' ⟨rfl, rfl⟩
              go_wp2_with fail
              refine (refbit_any _ b M (by omega) (by omega)).mono ?_
              rw [hyd.out]
              rintro e w' ⟨rfl, rfl⟩
              go_wp2_with fail
              go_ret
              exact ⟨by rw [hsv.out, hMd.out]; rfl, hb2.out⟩
        · have hlbI : ¬ (n : Int) < (b.length : Int) := by omega
          have f2 : decide (n < b.length) = false := decide_eq_false c2
          have hne : Hid (a ≠ b) := fun e => by rw [e] at c1; omega
          have g1 : ((n : Int) == (a.length : Int)) = false := by simp; omega
          go_wp2_with fail
          go_quiet (fail)
          have hsp := Ob.split_spec hne.out
          obtain ⟨D, hD⟩ : ∃ D, Ob.near a b (Ob.lcp a b) = D := ⟨_, rfl⟩
          have hspl : Ob.splitN a b = 9 * n + D := by unfold Ob.splitN; rw [hD, hNd.out]
          have hsv : Hid (Ob.split a b = ((9 * n + D : Nat) : Int)) := by
            show _ = _
            rw [Ob.split_of hne.out hsp.1, hspl]
          have hD9 : D < 9 := by rw [← hD]; exact hsp.2
          have hbef : Hid (∀ i, i < D → Ob.bitN a (9 * n + i) = Ob.bitN b (9 * n + i)) := fun i hi => hsp.1.1 _ (by rw [hspl]; omega)
          have hdif : Hid (Ob.bitN a (9 * n + D) ≠ Ob.bitN b (9 * n + D)) := by
            have h8 := hsp.1.2
            rw [hspl] at h8
            exact h8
          have hn5 : n ≤ 100000 := by omega
          clear hsp hD hspl
          go_wp2_with fail
          go_loopw [6] (fun t6 wr => ∃ i : Nat, i ≤ D ∧ t6 = .int .i64 ((9 * n + i : Nat) : Int) ∧ Below w.heap.size w wr) (fun t6 _ => 9 * n + D - (intOf t6).toNat)
          case atStart => exact ⟨0, by omega, by go_num, hbd.out.trans (((Fr.refl (fun _ => False) _).drewN _).below (fun _ h => h.elim) hbd.out.size)⟩
          case round =>
            obtain ⟨i, hi, rfl, hbw⟩ := hrel
            have hb2 := Lib.hid hbw
            clear hbw
            obtain ⟨M, hM⟩ : ∃ M : Nat, 9 * n + i = M := ⟨_, rfl⟩
            rw [hM]
            have hMl : M ≤ 1000000 := by omega
            have hMd := Lib.hid hM
            clear hM
            by_cases hid : i < D
            · have hsame := hbef.out i hid
              rw [hMd.out] at hsame
              obtain ⟨x, hx⟩ : ∃ x, Ob.bitN a M = x := ⟨_, rfl⟩
              rw [hx] at hsame
              have hxd := Lib.hid hx
              have hyd := Lib.hid hsame.symm
              have f9 : ((x : Int) != (x : Int)) = false := by simp
              clear hx hsame
              go_wp2_with fail
              refine (refbit_any _ a M (by omega) (by omega)).mono ?_
              rw [hxd.out]
              rintro e w' ⟨rfl, rfl⟩
              go_wp2_with fail
              refine (refbit_any _ b M (by omega) (by omega)).mono ?_
              rw [hyd.out]
              rintro e w' ⟨rfl, rfl⟩
              go_wp2_with fail
              go_roundw
              case rel => exact ⟨i + 1, by omega, by have := hMd.out; go_num, hb2.out⟩
              case measure => have := hMd.out; simp [intOf]; omega
            · obtain rfl : i = D := by omega
              have hdd := hdif.out
              rw [hMd.out] at hdd
              obtain ⟨x, hx⟩ : ∃ x, Ob.bitN a M = x := ⟨_, rfl⟩
              obtain ⟨y, hy⟩ : ∃ y, Ob.bitN b M = y := ⟨_, rfl⟩
              rw [hx, hy] at hdd
              have hxd := Lib.hid hx
              have hyd := Lib.hid hy
              have f9 : ((x : Int) != (y : Int)) = true := by simp; omega
              clear hx hy hdd
              go_wp2_with fail
              refine (refbit_any _ a M (by omega) (by omega)).mono ?_
              rw [hxd.out]
              rintro e w' ⟨rfl, rfl⟩
              go_wp2_with fail
              refine (refbit_any _ b M (by omega) (by omega)).mono ?_
              rw [hyd.out]
              rintro e w' ⟨rfl, rfl⟩
              go_wp2_with fail
              go_ret
              exact ⟨by rw [hsv.out, hMd.out]; rfl, hb2.out⟩
      · have hlaI : ¬ (n : Int) < (a.length : Int) := by omega
        have f1 : decide (n < a.length) = false := decide_eq_false c1
        have hna : Hid (n = a.length) := by show _ = _; omega
        have g0 : ((n : Int) == (a.length : Int)) = true := by simp; omega
        have hne : Hid (a ≠ b) := heqd.out
        go_wp2_with fail
        go_quiet (fail)
        have hsp := Ob.split_spec hne.out
        obtain ⟨D, hD⟩ : ∃ D, Ob.near a b (Ob.lcp a b) = D := ⟨_, rfl⟩
        have hspl : Ob.splitN a b = 9 * n + D := by unfold Ob.splitN; rw [hD, hNd.out]
        have hsv : Hid (Ob.split a b = ((9 * n + D : Nat) : Int)) := by
          show _ = _
          rw [Ob.split_of hne.out hsp.1, hspl]
        have hD9 : D < 9 := by rw [← hD]; exact hsp.2
        have hbef : Hid (∀ i, i < D → Ob.bitN a (9 * n + i) = Ob.bitN b (9 * n + i)) := fun i hi => hsp.1.1 _ (by rw [hspl]; omega)
        have hdif : Hid (Ob.bitN a (9 * n + D) ≠ Ob.bitN b (9 * n + D)) := by
          have h8 := hsp.1.2
          rw [hspl] at h8
          exact h8
        have hn5 : n ≤ 100000 := by omega
        clear hsp hD hspl
        go_wp2_with fail
        go_loopw [6] (fun t6 wr => ∃ i : Nat, i ≤ D ∧ t6 = .int .i64 ((9 * n + i : Nat) : Int) ∧ Below w.heap.size w wr) (fun t6 _ => 9 * n + D - (intOf t6).toNat)
        case atStart => exact ⟨0, by omega, by go_num, hbd.out.trans (((Fr.refl (fun _ => False) _).drewN _).below (fun _ h => h.elim) hbd.out.size)⟩
        case round =>
          obtain ⟨i, hi, rfl, hbw⟩ := hrel
          have hb2 := Lib.hid hbw
          clear hbw
          obtain ⟨M, hM⟩ : ∃ M : Nat, 9 * n + i = M := ⟨_, rfl⟩
          rw [hM]
          have hMl : M ≤ 1000000 := by omega
          have hMd := Lib.hid hM
          clear hM
          by_cases hid : i < D
          · have hsame := hbef.out i hid
            rw [hMd.out] at hsame
            obtain ⟨x, hx⟩ : ∃ x, Ob.bitN a M = x := ⟨_, rfl⟩
            rw [hx] at hsame
            have hxd := Lib.hid hx
            have hyd := Lib.hid hsame.symm
            have f9 : ((x : Int) != (x : Int)) = false := by simp
            clear hx hsame
            go_wp2_with fail
            refine (refbit_any _ a M (by omega) (by omega)).mono ?_
            rw [hxd.out]
            rintro e w' ⟨rfl, rfl⟩
            go_wp2_with fail
            refine (refbit_any _ b M (by omega) (by omega)).mono ?_
            rw [hyd.out]
            rintro e w' ⟨rfl, rfl⟩
            go_wp2_with fail
            go_roundw
            case rel => exact ⟨i + 1, by omega, by have := hMd.out; go_num, hb2.out⟩
            case measure => have := hMd.out; simp [intOf]; omega
          · obtain rfl : i = D := by omega
            have hdd := hdif.out
            rw [hMd.out] at hdd
            obtain ⟨x, hx⟩ : ∃ x, Ob.bitN a M = x := ⟨_, rfl⟩
            obtain ⟨y, hy⟩ : ∃ y, Ob.bitN b M = y := ⟨_, rfl⟩
            rw [hx, hy] at hdd
            have hxd := Lib.hid hx
            have hyd := Lib.hid hy
            have f9 : ((x : Int) != (y : Int)) = true := by simp; omega
            clear hx hy hdd
            go_wp2_with fail
            refine (refbit_any _ a M (by omega) (by omega)).mono ?_
            rw [hxd.out]
            rintro e w' ⟨rfl, rfl⟩
            go_wp2_with fail
            refine (refbit_any _ b M (by omega) (by omega)).mono ?_
            rw [hyd.out]
            rintro e w' ⟨rfl, rfl⟩
            go_wp2_with fail
            go_ret
            exact ⟨by rw [hsv.out, hMd.out]; rfl, hb2.out⟩
end Go.Proofs.YthoaenpbmmjokaaDoor

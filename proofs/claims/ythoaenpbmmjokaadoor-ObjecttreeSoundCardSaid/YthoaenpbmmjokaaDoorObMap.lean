/-
  The reference's Map, parts, Tree and Root, walked.
-/
import Derived.Test.YthoaenpbmmjokaaDoorObSm
import Derived.Test.YthoaenpbmmjokaaDoorObSplit
import Derived.Test.YthoaenpbmmjokaaDoorObBit
import Derived.Test.YthoaenpbmmjokaaDoorObRef
namespace Go.Proofs.YthoaenpbmmjokaaDoor
open Go.RowKit Go.Pl
set_option maxRecDepth 100000 in
set_option maxHeartbeats 400000 in
theorem refmap_any (w : World) {A : Option Addr} {n c : Nat} {xs : List Ob.It} (hx : RdI w (fun _ => True) A n c xs) (hn : n ≤ 100000) (hk : ∀ x ∈ xs, x.key.length ≤ 100000) (r : Bool) (hr : r = true ↔ Ob.IsMap xs) :
    Calls Tryd.prog 13 #[.slice A n c] w fun e w' => e = .returned (.bool r) ∧ Below w.heap.size w w' := by
  have hnl : Hid (n = xs.length) := hx.len
  have hxd := Lib.hid hx
  have hkd := Lib.hid hk
  have hnd := Lib.hid hn
  have hrd := Lib.hid hr
  clear hx hn hk hr
  go_enter Tryd.func13, Tryd.ntmps13
  go_wp2_with fail
  go_loopw [3] (fun t3 wr => ∃ i : Nat, i ≤ n ∧ t3 = .int .i64 i ∧ (∀ j, j < i → Ob.OkAt xs j) ∧ Below w.heap.size w wr) (fun t3 _ => n - (intOf t3).toNat)
  case atStart => exact ⟨0, by omega, rfl, fun j h => by omega, by first | exact Below.refl _ _ | exact ab_drew _⟩
  case round =>
    obtain ⟨i, hi, rfl, hok, hb⟩ := hrel
    have hid := Lib.hid hi
    have hokd := Lib.hid hok
    have hbd := Lib.hid hb
    clear hi hok hb
    by_cases hlt : i < n
    · have hltI : (i : Int) < (n : Int) := by omega
      obtain ⟨x, hx⟩ : ∃ x, xs[i]? = some x := ⟨_, List.getElem?_eq_getElem (by have := hnl.out; omega)⟩
      obtain ⟨b, o, s, p, rfl, -, hbl, ⟨A2, n2, c2, rfl, hs⟩, ⟨A3, n3, c3, rfl, hp⟩, c0, c1, c2', c3'⟩ := hxd.out.get hx
      have up : ∀ {j : Nat} {v : Value}, w.cell? ⟨b, j, none⟩ = some v → wr.cell? ⟨b, j, none⟩ = some v := fun hv => (hbd.out.cell (p := ⟨_, _, none⟩) hbl).trans hv
      have d0 := up c0
      have d1 := up c1
      have d2 := up c2'
      have d3 := up c3'
      clear up c0 c1 c2' c3'
      have hxx := Lib.hid hx
      have hsd := Lib.hid hs
      have hpd := Lib.hid hp
      clear hx hs hp
      go_upto_region 4 with fail
      have hbq : ∀ nq, Below w.heap.size w (wr.drewN nq) := fun nq => hbd.out.trans (((Fr.refl (fun _ => False) _).drewN _ |>.below (fun _ h => h.elim) (Nat.le_refl _)).mono hbd.out.size)
      have hbqd := Lib.hid hbq
      clear d2 hbq
      have hsz : (⟨x.key.toArray⟩ : ByteArray).size = x.key.length := by simp [ByteArray.size]
      have hkx : Hid (x.key.length ≤ 100000) := hkd.out x (List.mem_of_getElem? hxx.out)
      have hn3 : Hid (n3 = x.path.length) := hpd.out.len
      have no : ¬ Ob.OkAt xs i → r = false := fun h => by
        cases hrr : r with
        | false => rfl
        | true => exact absurd (hrd.out.1 hrr i (by have := hnl.out; omega)) h
      have nod := Lib.hid no
      clear no
      have hcI : ¬ (i : Int) < 0 := by omega
      have hilt : Hid (i + 1 ≤ n) := hlt
      have hpn : Hid (n3 = 0 → x.path = []) := fun e => List.eq_nil_of_length_eq_zero (by have := hn3.out; omega)
      by_cases hpr : x.present = true
      · rw [hpr] at d1
        by_cases hp3 : n3 = 0
        · subst hp3
          by_cases hkl : x.key.length ≤ 65536
          · have hkI : ¬ (x.key.length : Int) > 65536 := by omega
            by_cases hi0 : i = 0
            · have hiI : decide (0 < i) = false := by simp; omega
              have hiJ : decide (0 < (i : Int)) = false := by simp; omega
              have hi0d := Lib.hid hi0
              have hi100 : i ≤ 100000 := by have := hnd.out; omega
              clear hi0
              go_quiet (fail)
              go_wp2_with fail
              go_roundw
              case rel =>
                refine ⟨i + 1, hilt.out, by go_num, fun j hj => ?_, hbqd.out _⟩
                obtain rfl : j = i := by have := hi0d.out; omega
                exact ⟨x, hxx.out, hpr, hpn.out rfl, hkl, fun y' h _ => by have := hi0d.out; omega⟩
              case measure => simp [intOf]; omega
            · have hiI : decide (0 < i) = true := by simp; omega
              have hiJ : decide (0 < (i : Int)) = true := by simp; omega
              have hi100 : i ≤ 100000 := by have := hnd.out; omega
              have hi1 : IntKind.i64.wrap ((i : Int) - 1) = ((i - 1 : Nat) : Int) := by
                rw [IntKind.wrap_i64]; omega
              have hi3 : ((i - 1 : Nat) : Int) < n := by omega
              have hi4 : i - 1 < n := by omega
              obtain ⟨y, hy⟩ : ∃ x, xs[i - 1]? = some x := ⟨_, List.getElem?_eq_getElem (by have := hnl.out; omega)⟩
              obtain ⟨b', o', s, p, hA, -, -, -, -, c0, -⟩ := hxd.out.get hy
              cases hA
              have y0 : wr.cell? ⟨b, o + (i - 1) * 4, none⟩ = some (.string ⟨y.key.toArray⟩) := (hbd.out.cell (p := ⟨_, _, none⟩) hbl).trans c0
              clear c0
              by_cases hbl2 : Go.Op.bytesLess y.key x.key = true
              · have hcmp : Go.Op.bytesLess (⟨y.key.toArray⟩ : ByteArray).toList (⟨x.key.toArray⟩ : ByteArray).toList = true := by rw [Ob.toList_bytes, Ob.toList_bytes]; exact hbl2
                go_quiet (fail)
                go_wp2_with fail
                go_roundw
                case rel =>
                  refine ⟨i + 1, hilt.out, by go_num, fun j hj => ?_, hbqd.out _⟩
                  rcases Nat.lt_or_ge j i with h | h
                  · exact hokd.out j h
                  · obtain rfl : j = i := by omega
                    exact ⟨x, hxx.out, hpr, hpn.out rfl, hkl, fun y' _ hy' => by rw [hy'] at hy; cases hy; exact hbl2⟩
                case measure => simp [intOf]; omega
              · have hcmp : Go.Op.bytesLess (⟨y.key.toArray⟩ : ByteArray).toList (⟨x.key.toArray⟩ : ByteArray).toList = false := by rw [Ob.toList_bytes, Ob.toList_bytes]; simpa using hbl2
                go_quiet (fail)
                go_wp2_with fail
                go_ret
                refine ⟨?_, hbqd.out _⟩
                suffices hrf : ¬ Ob.OkAt xs i by rw [nod.out hrf]; rfl
                rintro ⟨x', k1, k2, k3, k4, k5⟩
                have := hxx.out
                rw [k1] at this
                cases this
                exact hbl2 (k5 y (by omega) hy)
          · have hkI : decide (65536 < x.key.length) = true := by simp; omega
            have hkJ : decide (65536 < (x.key.length : Int)) = true := by simp; omega
            go_quiet (fail)
            go_wp2_with fail
            go_ret
            refine ⟨?_, hbqd.out _⟩
            suffices hrf : ¬ Ob.OkAt xs i by rw [nod.out hrf]; rfl
            rintro ⟨x', k1, k2, k3, k4, k5⟩
            have := hxx.out
            rw [k1] at this
            cases this
            omega
        · have hp3I : decide (n3 = 0) = false := by simp; omega
          have hp3J : decide ((n3 : Int) = 0) = false := by simp; omega
          have hp3K : ((n3 : Int) != 0) = true := by simp; omega
          have hp3L : ((n3 : Int) == 0) = false := by simp; omega
          go_quiet (fail)
          go_wp2_with fail
          go_ret
          refine ⟨?_, hbqd.out _⟩
          suffices hrf : ¬ Ob.OkAt xs i by rw [nod.out hrf]; rfl
          rintro ⟨x', k1, k2, k3, k4, k5⟩
          have := hxx.out
          rw [k1] at this
          cases this
          rw [k3] at hn3; have := hn3.out; simp at this; omega
      · have hpr' : x.present = false := by simpa using hpr
        rw [hpr'] at d1
        go_quiet (fail)
        go_wp2_with fail
        go_ret
        refine ⟨?_, hbqd.out _⟩
        suffices hrf : ¬ Ob.OkAt xs i by rw [nod.out hrf]; rfl
        rintro ⟨x', h1, h2, -⟩
        have := hxx.out
        rw [h1] at this
        cases this
        exact hpr h2
    · have hltI : ¬ (i : Int) < (n : Int) := by omega
      go_wp2_with fail
      go_ret
      exact ⟨by rw [hrd.out.2 (fun j hj => hokd.out j (by have := hnl.out; omega))]; rfl, hbd.out⟩
set_option maxRecDepth 100000 in
theorem refparts_any (w : World) {A : Option Addr} {n c : Nat} {xs : List Ob.It} (hx : RdI w (fun _ => True) A n c xs) (t : Nat) (ht : Ob.top xs = t) (htl : t ≤ 1000000) (h2 : 2 ≤ n) (hn : n ≤ 100000) (hk : ∀ x ∈ xs, x.key.length ≤ 100000) (hz : Ob.zeros t xs < xs.length) :
    Calls Tryd.prog 38 #[.slice A n c] w fun e w' => e = .returned (.tuple #[.int .i64 t, .int .i64 (Ob.zeros t xs : Nat)]) ∧ Below w.heap.size w w' := by
  have hnl := hx.len
  have hc := hx.le
  obtain ⟨x0, h0⟩ : ∃ x, xs[0]? = some x := ⟨_, List.getElem?_eq_getElem (by omega)⟩
  obtain ⟨x1, h1⟩ : ∃ x, xs[n - 1]? = some x := ⟨_, List.getElem?_eq_getElem (by omega)⟩
  obtain ⟨b, o, s0, p0, rfl, -, hbl, -, -, ha0, -⟩ := hx.get h0
  obtain ⟨b', o', s1, p1, hA, -, -, -, -, ha1, -⟩ := hx.get h1
  cases hA
  have hxd := Lib.hid hx
  have hhd : Hid (Ob.top xs = Ob.split x0.key x1.key) := by
    show _ = _
    unfold Ob.top
    rw [List.headD_eq_head?_getD, List.head?_eq_getElem?, h0, List.getLastD_eq_getLast?, List.getLast?_eq_getElem?, ← hnl, h1]; rfl
  have hk0 : Hid (x0.key.length ≤ 100000) := hk _ (List.mem_of_getElem? h0)
  have hk1 : Hid (x1.key.length ≤ 100000) := hk _ (List.mem_of_getElem? h1)
  have up : ∀ {j : Nat} {v : Value}, w.cell? ⟨b, j, none⟩ = some v → ∀ w', Ab w.drew w' → w'.cell? ⟨b, j, none⟩ = some v := fun hv w' h => (Below.cell h (p := ⟨_, _, none⟩) hbl).trans hv
  rw [show o + 0 * 4 = o by omega] at ha0
  have hl1 : Hid (((n : Int) - 1).toNat = n - 1) := by show _ = _; omega
  have a0 := up ha0
  have a1 := up ha1
  have htd := Lib.hid ht
  have hnld := Lib.hid hnl
  have hcd := Lib.hid hc
  have hkey := Lib.hid hk
  have hnI : ¬ (n : Int) - 1 < 0 := by omega
  have hzz := Lib.hid hz
  have hzn : Hid (Ob.zeros t xs < n) := by show _ < _; omega
  clear up hx h0 h1 ha0 ha1 hnl hk hc ht hz
  go_enter Tryd.func38, Tryd.ntmps38
  go_wp2_with fail
  refine wp_region_plan Ab Ab.refl Ab.trans [([0, 1, 2, 3, 4, 5, 6, 7, 8, 9, 10], 11)] [12] (by kernel_rfl) (by kernel_rfl) (fun _ _ _ _ _ h => h) ?_
  simp only [wpPlan, ordPick, Option.toList_some, List.cons_append, List.nil_append, List.getElem?_cons_succ, List.getElem?_cons_zero]
  iterate 3 (go_big_quiet_step (exact fun _ => rfl))
  refine wpq_load_one rfl 9 (.tmp 8) rfl ⟨b, o, none⟩ rfl _ a0 _ Tryd.underlying9 rfl ?_
  simp only [Act.put, List.setIfInBounds_toArray, List.set_cons_succ, List.set_cons_zero]
  iterate 6 (go_big_quiet_step (exact fun _ => rfl))
  refine wpq_load_one rfl 9 (.tmp 15) rfl ⟨b, o + (n - 1) * 4, none⟩ rfl _ a1 _ Tryd.underlying9 rfl ?_
  simp only [Act.put, List.setIfInBounds_toArray, List.set_cons_succ, List.set_cons_zero]
  refine wpQuiet_nil ?_
  clear a0 a1
  go_wp2_with fail
  refine (refsplit_any _ x0.key x1.key hk0.out hk1.out).mono ?_
  rintro e w1 ⟨rfl, hb1⟩
  rw [← hhd.out, htd.out]
  have hb1d : Hid (Below w.heap.size w w1) := Ab.trans _ _ _ (ab_drew w) hb1
  go_wp2_with fail
  refine And.intro hb1 ?_
  clear hb1
  simp only
  iterate 1 (go_big_quiet_step (exact fun _ => rfl))
  refine wpQuiet_nil ?_
  go_wp2_with fail
  go_loopw [5] (fun t5 wr => ∃ k : Nat, k ≤ Ob.zeros t xs ∧ t5 = .int .i64 k ∧ Below w.heap.size w wr) (fun t5 _ => n - (intOf t5).toNat)
  case atStart => exact ⟨0, by omega, rfl, hb1d.out⟩
  case round =>
    obtain ⟨k, hk, rfl, hb⟩ := hrel
    have hkd := Lib.hid hk
    have hbd := Lib.hid hb
    have hlt : k < n := by have := hzn.out; omega
    have up : ∀ {j : Nat} {v : Value}, w.cell? ⟨b, j, none⟩ = some v → wr.cell? ⟨b, j, none⟩ = some v := fun hv => (hb.cell (p := ⟨_, _, none⟩) hbl).trans hv
    clear hb
    have hltI : (k : Int) < (n : Int) := by omega
    obtain ⟨x, hx⟩ : ∃ x, xs[k]? = some x := ⟨_, List.getElem?_eq_getElem (by have := hnld.out; omega)⟩
    obtain ⟨b', o', s, p, hA, -, -, -, -, hax, -⟩ := hxd.out.get hx
    cases hA
    have ax := up hax
    have hkx : Hid (x.key.length ≤ 100000) := hkey.out _ (List.mem_of_getElem? hx)
    have hxx := Lib.hid hx
    clear up hax hx hk
    go_wp2_with fail
    refine (refbit_any _ x.key t (by have := hkx.out; omega) (by omega)).mono ?_
    rintro e w2 ⟨rfl, rfl⟩
    by_cases hb0 : Ob.bitN x.key t = 0
    · have hb0I : ((Ob.bitN x.key t : Nat) : Int) = 0 := by omega
      have hkz : Hid (k + 1 ≤ Ob.zeros t xs) := by
        refine Nat.lt_of_le_of_ne hkd.out fun e => ?_
        have hx2 := hxx.out
        rw [e] at hx2
        have h1 := Ob.zeros_at hx2
        rw [Ob.bit_nat] at h1
        omega
      go_wp2_with fail
      go_roundw
      case rel => exact ⟨k + 1, hkz.out, by go_num, hbd.out⟩
      case measure => simp [intOf]; omega
    · have hb0I : ¬ ((Ob.bitN x.key t : Nat) : Int) = 0 := by omega
      have hkz : Hid (k = Ob.zeros t xs) := by
        show k = _
        refine Nat.le_antisymm hkd.out (Nat.le_of_not_lt fun h => ?_)
        obtain ⟨y, hy1, hy2⟩ := Ob.zeros_lt h
        rw [hxx.out] at hy1
        cases hy1
        exact hb0 (by rw [Ob.bit_nat] at hy2; exact hy2)
      clear ax
      go_wp2_with fail
      go_returns
      exact ⟨by rw [hkz.out]; rfl, hbd.out⟩
end Go.Proofs.YthoaenpbmmjokaaDoor

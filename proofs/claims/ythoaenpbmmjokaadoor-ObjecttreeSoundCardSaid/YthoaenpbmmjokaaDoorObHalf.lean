/-
  The parts of a map, walked.
-/
import Derived.Test.YthoaenpbmmjokaaDoorObRef
import Derived.Test.YthoaenpbmmjokaaDoorObAt
import Derived.Test.YthoaenpbmmjokaaDoorOrdR
import Derived.Test.YthoaenpbmmjokaaDoorOrdV
import Derived.Test.YthoaenpbmmjokaaDoorOrdT
import Derived.Test.YthoaenpbmmjokaaDoorOrdS
namespace Ob
/-- How many keys have the bit 0 ahead of the first with the bit 1. -/
def zeros (b : Int) : List It → Nat
  | [] => 0
  | x :: xs => if bit x.key b = 0 then zeros b xs + 1 else 0
theorem zeros_le (b : Int) : ∀ xs : List It, zeros b xs ≤ xs.length
  | [] => Nat.le_refl _
  | x :: xs => by
    have := zeros_le b xs
    unfold zeros
    split <;> simp <;> omega
theorem zeros_lt {b : Int} : ∀ {xs : List It} {i : Nat}, i < zeros b xs → ∃ x, xs[i]? = some x ∧ bit x.key b = 0
  | [], _, h => by simp [zeros] at h
  | x :: xs, 0, h => by
    unfold zeros at h
    by_cases h0 : bit x.key b = 0
    · exact ⟨x, rfl, h0⟩
    · rw [if_neg h0] at h; omega
  | x :: xs, i + 1, h => by
    unfold zeros at h
    by_cases h0 : bit x.key b = 0
    · rw [if_pos h0] at h
      obtain ⟨y, h1, h2⟩ := zeros_lt (b := b) (xs := xs) (i := i) (by omega)
      exact ⟨y, by simpa using h1, h2⟩
    · rw [if_neg h0] at h; omega
theorem zeros_at {b : Int} : ∀ {xs : List It} {x : It}, xs[zeros b xs]? = some x → bit x.key b = 1
  | [], x, h => by simp [zeros] at h
  | y :: xs, x, h => by
    unfold zeros at h
    by_cases h0 : bit y.key b = 0
    · rw [if_pos h0] at h
      exact zeros_at (xs := xs) (by simpa using h)
    · rw [if_neg h0] at h
      simp only [List.getElem?_cons_zero, Option.some.injEq] at h
      subst h
      have := bit_le y.key b
      omega
/-- The bit of the node of a list of items. -/
def top (xs : List It) : Int := split (xs.headD ⟨[], false, [], []⟩).key (xs.getLastD ⟨[], false, [], []⟩).key
end Ob
namespace Go.Proofs.YthoaenpbmmjokaaDoor
open Go.RowKit Go.Pl
set_option maxRecDepth 100000 in
theorem halves_any (w : World) {A : Option Addr} {n c : Nat} {xs : List Ob.It} (hx : RdI w (fun _ => True) A n c xs) (t : Nat) (ht : Ob.top xs = t) (htl : t ≤ 1000000) (h2 : 2 ≤ n) (hn : n ≤ 100000) (hk : ∀ x ∈ xs, x.key.length ≤ 100000) :
    Calls Tryd.prog 41 #[.slice A n c] w fun e w' => ∃ k A', e = .returned (.tuple #[.int .i64 t, .slice A k c, .slice A' (n - k) (c - k)]) ∧ k = Ob.zeros t xs ∧ RdI w' (fun _ => True) A k c (xs.take k) ∧ RdI w' (fun _ => True) A' (n - k) (c - k) (xs.drop k) ∧ A' = (if c = k then A else A.map (·.add (k * 4))) ∧ Below w.heap.size w w' := by
  have hnl := hx.len
  have hc := hx.le
  obtain ⟨x0, h0⟩ : ∃ x, xs[0]? = some x := ⟨_, List.getElem?_eq_getElem (by omega)⟩
  obtain ⟨x1, h1⟩ : ∃ x, xs[n - 1]? = some x := ⟨_, List.getElem?_eq_getElem (by omega)⟩
  obtain ⟨b, o, s0, p0, rfl, -, hbl, -, -, ha0, -⟩ := hx.get h0
  obtain ⟨b', o', s1, p1, hA, -, -, -, -, ha1, -⟩ := hx.get h1
  cases hA
  have hxd := Lib.hid hx
  have hhd : Hid (Ob.top xs = Ob.split x0.key x1.key) := by
    show _ = _
    unfold Ob.top
    rw [List.headD_eq_head?_getD, List.head?_eq_getElem?, h0, List.getLastD_eq_getLast?, List.getLast?_eq_getElem?, ← hnl, h1]; rfl
  have hk0 : Hid (x0.key.length ≤ 100000) := hk _ (List.mem_of_getElem? h0)
  have hk1 : Hid (x1.key.length ≤ 100000) := hk _ (List.mem_of_getElem? h1)
  have up : ∀ {j : Nat} {v : Value}, w.cell? ⟨b, j, none⟩ = some v → ∀ w', Ab w.drew w' → w'.cell? ⟨b, j, none⟩ = some v := fun hv w' h => (Below.cell h (p := ⟨_, _, none⟩) hbl).trans hv
  rw [show o + 0 * 4 = o by omega] at ha0
  have hl1 : Hid (((n : Int) - 1).toNat = n - 1) := by show _ = _; omega
  have a0 := up ha0
  have a1 := up ha1
  have htd := Lib.hid ht
  have hnld := Lib.hid hnl
  have hcd := Lib.hid hc
  have hkey := Lib.hid hk
  have hnI : ¬ (n : Int) - 1 < 0 := by omega
  clear up hx h0 h1 ha0 ha1 hnl hk hc ht
  go_enter Tryd.func41, Tryd.ntmps41
  go_wp2_with fail
  refine wp_region_plan Ab Ab.refl Ab.trans [([0, 1, 2, 3, 4, 5, 6, 7, 8, 9, 10], 11)] [12] (by kernel_rfl) (by kernel_rfl) (fun _ _ _ _ _ h => h) ?_
  simp only [wpPlan, ordPick, Option.toList_some, List.cons_append, List.nil_append, List.getElem?_cons_succ, List.getElem?_cons_zero]
  iterate 3 (go_big_quiet_step (exact fun _ => rfl))
  refine wpq_load_one rfl 9 (.tmp 9) rfl ⟨b, o, none⟩ rfl _ a0 _ Tryd.underlying9 rfl ?_
  simp only [Act.put, List.setIfInBounds_toArray, List.set_cons_succ, List.set_cons_zero]
  iterate 6 (go_big_quiet_step (exact fun _ => rfl))
  refine wpq_load_one rfl 9 (.tmp 16) rfl ⟨b, o + (n - 1) * 4, none⟩ rfl _ a1 _ Tryd.underlying9 rfl ?_
  simp only [Act.put, List.setIfInBounds_toArray, List.set_cons_succ, List.set_cons_zero]
  refine wpQuiet_nil ?_
  clear a0 a1
  go_wp2_with fail
  refine (split_any _ x0.key x1.key hk0.out hk1.out).mono ?_
  rintro e w1 ⟨rfl, hb1⟩
  rw [← hhd.out, htd.out]
  have hb1d : Hid (Below w.heap.size w w1) := Ab.trans _ _ _ (ab_drew w) hb1
  go_wp2_with fail
  refine And.intro hb1 ?_
  clear hb1
  simp only
  iterate 1 (go_big_quiet_step (exact fun _ => rfl))
  refine wpQuiet_nil ?_
  go_wp2_with fail
  go_loopw [6] (fun t6 wr => ∃ k : Nat, k ≤ Ob.zeros t xs ∧ t6 = .int .i64 k ∧ Below w.heap.size w wr) (fun t6 _ => n - (intOf t6).toNat)
  case atStart => exact ⟨0, by omega, rfl, hb1d.out⟩
  case round =>
    obtain ⟨k, hk, rfl, hb⟩ := hrel
    have hzl := Ob.zeros_le t xs
    have hkd := Lib.hid hk
    have hbd := Lib.hid hb
    have up : ∀ {j : Nat} {v : Value}, w.cell? ⟨b, j, none⟩ = some v → wr.cell? ⟨b, j, none⟩ = some v := fun hv => (hb.cell (p := ⟨_, _, none⟩) hbl).trans hv
    clear hb
    by_cases hlt : k < n
    · have hltI : (k : Int) < (n : Int) := by omega
      obtain ⟨x, hx⟩ : ∃ x, xs[k]? = some x := ⟨_, List.getElem?_eq_getElem (by have := hnld.out; omega)⟩
      obtain ⟨b', o', s, p, hA, -, -, -, -, hax, -⟩ := hxd.out.get hx
      cases hA
      have ax := up hax
      have hkx : Hid (x.key.length ≤ 100000) := hkey.out _ (List.mem_of_getElem? hx)
      have hxx := Lib.hid hx
      clear up hax hx hk hzl
      go_wp2_with fail
      refine (bit_any _ x.key t (by have := hkx.out; omega) (by omega)).mono ?_
      rintro e w2 ⟨rfl, rfl⟩
      by_cases hb0 : Ob.bitN x.key t = 0
      · have hb0I : ((Ob.bitN x.key t : Nat) : Int) = 0 := by omega
        have hkz : Hid (k + 1 ≤ Ob.zeros t xs) := by
          refine Nat.lt_of_le_of_ne hkd.out fun e => ?_
          have hx2 := hxx.out
          rw [e] at hx2
          have h1 := Ob.zeros_at hx2
          rw [Ob.bit_nat] at h1
          omega
        go_wp2_with fail
        go_roundw
        case rel => exact ⟨k + 1, hkz.out, by go_num, hbd.out⟩
        case measure => simp [intOf]; omega
      · have hb0I : ¬ ((Ob.bitN x.key t : Nat) : Int) = 0 := by omega
        have hkz : Hid (k = Ob.zeros t xs) := by
          show k = _
          refine Nat.le_antisymm hkd.out (Nat.le_of_not_lt fun h => ?_)
          obtain ⟨y, hy1, hy2⟩ := Ob.zeros_lt h
          rw [hxx.out] at hy1
          cases hy1
          exact hb0 (by rw [Ob.bit_nat] at hy2; exact hy2)
        have hkn : Hid (k ≤ n) := Nat.le_of_lt hlt
        clear ax
        have hfr := hxd.out.from_ hkn.out
        obtain ⟨A', hA'⟩ : ∃ A', (if c = k then some (⟨b, o, none⟩ : Addr) else (some (⟨b, o, none⟩ : Addr)).map (·.add (k * 4))) = A' := ⟨_, rfl⟩
        rw [hA'] at hfr
        have hAd := Lib.hid hA'
        clear hA'
        go_wp2_with fail
        refine wp_region_plan Ab Ab.refl Ab.trans [] [0, 1, 2, 3, 4, 5, 6, 7, 8, 9] (by kernel_rfl) (by kernel_rfl) (fun _ _ _ _ _ h => h) ?_
        simp only [wpPlan, ordPick, Option.toList_some, List.cons_append, List.nil_append, List.getElem?_cons_succ, List.getElem?_cons_zero]
        iterate 3 (go_big_quiet_step (exact fun _ => rfl))
        refine wpq_slice_toz rfl 22 (.tmp 36) (.tmp 37) rfl 26 4 Tryd.underlying22 (by kernel_rfl) _ n c rfl .i64 k rfl (by have := hcd.out; omega) ?_
        simp only [Act.put, List.setIfInBounds_toArray, List.set_cons_succ, List.set_cons_zero]
        iterate 2 (go_big_quiet_step (exact fun _ => rfl))
        refine wpq_slice_fromz rfl 22 (.tmp 39) (.tmp 40) rfl 26 4 Tryd.underlying22 (by kernel_rfl) _ n c rfl .i64 k rfl (by omega) ?_
        rw [hAd.out]
        simp only [Act.put, List.setIfInBounds_toArray, List.set_cons_succ, List.set_cons_zero]
        iterate 3 (go_big_quiet_step (exact fun _ => rfl))
        refine wpQuiet_nil ?_
        go_wp2_with fail
        go_returns
        have hw := hbd.out.trans ((ab_drew wr).mono hbd.out.size)
        have hxw := hxd.out.fr (Fr.of_below (F := fun _ => False) hw) (fun _ _ h => h)
        exact ⟨k, A', rfl, hkz.out, hxw.to hkn.out, hfr.fr (Fr.of_below (F := fun _ => False) hw) (fun _ _ h => h), hAd.out.symm, hw⟩
    · have hkz : Hid (k = Ob.zeros t xs) := by show k = _; have := hnld.out; omega
      have hltI : ¬ (k : Int) < (n : Int) := by omega
      have hkn : Hid (k ≤ n) := by show k ≤ n; have := hnld.out; omega
      clear hk hzl up
      have hfr := hxd.out.from_ hkn.out
      obtain ⟨A', hA'⟩ : ∃ A', (if c = k then some (⟨b, o, none⟩ : Addr) else (some (⟨b, o, none⟩ : Addr)).map (·.add (k * 4))) = A' := ⟨_, rfl⟩
      rw [hA'] at hfr
      have hAd := Lib.hid hA'
      clear hA'
      go_wp2_with fail
      refine wp_region_plan Ab Ab.refl Ab.trans [] [0, 1, 2, 3, 4, 5, 6, 7, 8, 9] (by kernel_rfl) (by kernel_rfl) (fun _ _ _ _ _ h => h) ?_
      simp only [wpPlan, ordPick, Option.toList_some, List.cons_append, List.nil_append, List.getElem?_cons_succ, List.getElem?_cons_zero]
      iterate 3 (go_big_quiet_step (exact fun _ => rfl))
      refine wpq_slice_toz rfl 22 (.tmp 36) (.tmp 37) rfl 26 4 Tryd.underlying22 (by kernel_rfl) _ n c rfl .i64 k rfl (by have := hcd.out; have := hkn.out; omega) ?_
      simp only [Act.put, List.setIfInBounds_toArray, List.set_cons_succ, List.set_cons_zero]
      iterate 2 (go_big_quiet_step (exact fun _ => rfl))
      refine wpq_slice_fromz rfl 22 (.tmp 39) (.tmp 40) rfl 26 4 Tryd.underlying22 (by kernel_rfl) _ n c rfl .i64 k rfl (by have := hkn.out; omega) ?_
      rw [hAd.out]
      simp only [Act.put, List.setIfInBounds_toArray, List.set_cons_succ, List.set_cons_zero]
      iterate 3 (go_big_quiet_step (exact fun _ => rfl))
      refine wpQuiet_nil ?_
      go_wp2_with fail
      go_returns
      have hw := hbd.out.trans ((ab_drew wr).mono hbd.out.size)
      have hxw := hxd.out.fr (Fr.of_below (F := fun _ => False) hw) (fun _ _ h => h)
      exact ⟨k, A', rfl, hkz.out, hxw.to hkn.out, hfr.fr (Fr.of_below (F := fun _ => False) hw) (fun _ _ h => h), hAd.out.symm, hw⟩
end Go.Proofs.YthoaenpbmmjokaaDoor

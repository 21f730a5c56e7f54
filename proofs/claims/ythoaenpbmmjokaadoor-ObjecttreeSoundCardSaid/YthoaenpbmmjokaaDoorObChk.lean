/-
  Whether items are a map, walked.
-/
import Derived.Test.YthoaenpbmmjokaaDoorObRoot
import Derived.Deep.DeepCutAuto
import Derived.Laws.Strings
import Derived.Laws.Cover1
namespace Ob
open Go.Op
/-- Item i of a list is one of a map, behind the ones ahead of it. -/
def OkAt (xs : List It) (i : Nat) : Prop := ∃ x, xs[i]? = some x ∧ x.present = true ∧ x.path = [] ∧ x.key.length ≤ 65536 ∧ ∀ y, 0 < i → xs[i - 1]? = some y → bytesLess y.key x.key = true
/-- The items are a map. -/
def IsMap (xs : List It) : Prop := ∀ i, i < xs.length → OkAt xs i
theorem toList_bytes (k : List UInt8) : (⟨k.toArray⟩ : ByteArray).toList = k := by
  rw [Go.ByteArray.toList_eq]
end Ob
namespace Go.Proofs.YthoaenpbmmjokaaDoor
open Go.RowKit Go.Pl
set_option maxRecDepth 100000 in
set_option maxHeartbeats 400000 in
theorem check_any (w : World) {A : Option Addr} {n c : Nat} {xs : List Ob.It} (hx : RdI w (fun _ => True) A n c xs) (hn : n ≤ 100000) (hk : ∀ x ∈ xs, x.key.length ≤ 100000) (r : Bool) (hr : r = true ↔ Ob.IsMap xs) :
    Calls Tryd.prog 31 #[.slice A n c] w fun e w' => e = .returned (.bool r) ∧ Below w.heap.size w w' := by
  have hnl : Hid (n = xs.length) := hx.len
  have hxd := Lib.hid hx
  have hkd := Lib.hid hk
  have hnd := Lib.hid hn
  have hrd := Lib.hid hr
  clear hx hn hk hr
  go_enter Tryd.func31, Tryd.ntmps31
  go_wp2_with fail
  go_loopw [7] (fun t7 wr => ∃ i : Nat, i ≤ n ∧ t7 = .int .i64 i ∧ (∀ j, j < i → Ob.OkAt xs j) ∧ Below w.heap.size w wr) (fun t7 _ => n - (intOf t7).toNat)
  case atStart => exact ⟨0, by omega, rfl, fun j h => by omega, by first | exact Below.refl _ _ | exact ab_drew _⟩
  case round =>
    obtain ⟨i, hi, rfl, hok, hb⟩ := hrel
    have hid := Lib.hid hi
    have hokd := Lib.hid hok
    have hbd := Lib.hid hb
    clear hi hok hb
    by_cases hlt : i < n
    · have hltI : (i : Int) < (n : Int) := by omega
      obtain ⟨x, hx⟩ : ∃ x, xs[i]? = some x := ⟨_, List.getElem?_eq_getElem (by have := hnl.out; omega)⟩
      obtain ⟨b, o, s, p, rfl, -, hbl, ⟨A2, n2, c2, rfl, hs⟩, ⟨A3, n3, c3, rfl, hp⟩, c0, c1, c2', c3'⟩ := hxd.out.get hx
      have up : ∀ {j : Nat} {v : Value}, w.cell? ⟨b, j, none⟩ = some v → wr.cell? ⟨b, j, none⟩ = some v := fun hv => (hbd.out.cell (p := ⟨_, _, none⟩) hbl).trans hv
      have d0 := up c0
      have d1 := up c1
      have d2 := up c2'
      have d3 := up c3'
      clear up c0 c1 c2' c3'
      have hxx := Lib.hid hx
      have hsd := Lib.hid hs
      have hpd := Lib.hid hp
      clear hx hs hp
      go_upto_region 4 with fail
      obtain ⟨w1, hw1⟩ : ∃ w1, wr.alloc (.cells #[.string ⟨x.key.toArray⟩, .bool x.present, .slice A2 n2 c2, .slice A3 n3 c3] 26) = w1 := ⟨_, rfl⟩
      have hX : Blk w1 wr.heap.size 26 #[.string ⟨x.key.toArray⟩, .bool x.present, .slice A2 n2 c2, .slice A3 n3 c3] := by rw [← hw1]; exact Blk.new' rfl
      have hb1 : Below wr.heap.size wr w1 := by rw [← hw1]; exact (Below.refl _ _).alloc (Nat.le_refl _) _
      have hbw1 : Hid (Below w.heap.size w w1) := hbd.out.trans (hb1.mono hbd.out.size)
      rw [hw1]
      have x0 : w1.cell? ⟨wr.heap.size, 0, none⟩ = some (.string ⟨x.key.toArray⟩) := (hX.cell 0).trans rfl
      have x1 : w1.cell? ⟨wr.heap.size, 1, none⟩ = some (.bool x.present) := (hX.cell 1).trans rfl
      have x3 : w1.cell? ⟨wr.heap.size, 3, none⟩ = some (.slice A3 n3 c3) := (hX.cell 3).trans rfl
      have hbq : ∀ nq, Below w.heap.size w (w1.drewN nq) := fun nq => hbw1.out.trans (((Fr.refl (fun _ => False) _).drewN _ |>.below (fun _ h => h.elim) (Nat.le_refl _)).mono hbw1.out.size)
      have hbqd := Lib.hid hbq
      clear hw1 hX hb1 d0 d1 d2 d3 hbq
      generalize wr.heap.size = g at x0 x1 x3 ⊢
      have hsz : (⟨x.key.toArray⟩ : ByteArray).size = x.key.length := by simp [ByteArray.size]
      have hkx : Hid (x.key.length ≤ 100000) := hkd.out x (List.mem_of_getElem? hxx.out)
      have hn3 : Hid (n3 = x.path.length) := hpd.out.len
      have no : ¬ Ob.OkAt xs i → r = false := fun h => by
        cases hrr : r with
        | false => rfl
        | true => exact absurd (hrd.out.1 hrr i (by have := hnl.out; omega)) h
      have nod := Lib.hid no
      clear no
      have hcI : ¬ (i : Int) < 0 := by omega
      have hilt : Hid (i + 1 ≤ n) := hlt
      have hpn : Hid (n3 = 0 → x.path = []) := fun e => List.eq_nil_of_length_eq_zero (by have := hn3.out; omega)
      by_cases hpr : x.present = true
      · rw [hpr] at x1
        by_cases hp3 : n3 = 0
        · subst hp3
          by_cases hkl : x.key.length ≤ 65536
          · have hkI : ¬ (x.key.length : Int) > 65536 := by omega
            by_cases hi0 : i = 0
            · subst hi0
              go_quiet (fail)
              go_wp2_with fail
              go_roundw
              case rel =>
                refine ⟨0 + 1, hilt.out, by go_num, fun j hj => ?_, hbqd.out _⟩
                obtain rfl : j = 0 := by omega
                exact ⟨x, hxx.out, hpr, hpn.out rfl, hkl, fun y' h _ => by omega⟩
              case measure => simp [intOf]; omega
            · have hiI : decide (0 < i) = true := by simp; omega
              have hiJ : decide (0 < (i : Int)) = true := by simp; omega
              have hi100 : i ≤ 100000 := by have := hnd.out; omega
              have hi1 : IntKind.i64.wrap ((i : Int) - 1) = ((i - 1 : Nat) : Int) := by
                rw [IntKind.wrap_i64]; omega
              have hi3 : ((i - 1 : Nat) : Int) < n := by omega
              have hi4 : i - 1 < n := by omega
              obtain ⟨y, hy⟩ : ∃ x, xs[i - 1]? = some x := ⟨_, List.getElem?_eq_getElem (by have := hnl.out; omega)⟩
              obtain ⟨b', o', s, p, hA, -, -, -, -, c0, -⟩ := hxd.out.get hy
              cases hA
              have y0 : w1.cell? ⟨b, o + (i - 1) * 4, none⟩ = some (.string ⟨y.key.toArray⟩) := (hbw1.out.cell (p := ⟨_, _, none⟩) hbl).trans c0
              clear c0
              by_cases hbl2 : Go.Op.bytesLess y.key x.key = true
              · have hcmp : Go.Op.bytesLess (⟨y.key.toArray⟩ : ByteArray).toList (⟨x.key.toArray⟩ : ByteArray).toList = true := by rw [Ob.toList_bytes, Ob.toList_bytes]; exact hbl2
                go_quiet (fail)
                go_wp2_with fail
                go_roundw
                case rel =>
                  refine ⟨i + 1, hilt.out, by go_num, fun j hj => ?_, hbqd.out _⟩
                  rcases Nat.lt_or_ge j i with h | h
                  · exact hokd.out j h
                  · obtain rfl : j = i := by omega
                    exact ⟨x, hxx.out, hpr, hpn.out rfl, hkl, fun y' _ hy' => by rw [hy'] at hy; cases hy; exact hbl2⟩
                case measure => simp [intOf]; omega
              · have hcmp : Go.Op.bytesLess (⟨y.key.toArray⟩ : ByteArray).toList (⟨x.key.toArray⟩ : ByteArray).toList = false := by rw [Ob.toList_bytes, Ob.toList_bytes]; simpa using hbl2
                go_quiet (fail)
                go_wp2_with fail
                go_ret
                refine ⟨?_, hbqd.out _⟩
                suffices hrf : ¬ Ob.OkAt xs i by rw [nod.out hrf]; rfl
                rintro ⟨x', k1, k2, k3, k4, k5⟩
                have := hxx.out
                rw [k1] at this
                cases this
                exact hbl2 (k5 y (by omega) hy)
          · have hkI : decide (65536 < x.key.length) = true := by simp; omega
            have hkJ : decide (65536 < (x.key.length : Int)) = true := by simp; omega
            go_quiet (fail)
            go_wp2_with fail
            go_ret
            refine ⟨?_, hbqd.out _⟩
            suffices hrf : ¬ Ob.OkAt xs i by rw [nod.out hrf]; rfl
            rintro ⟨x', k1, k2, k3, k4, k5⟩
            have := hxx.out
            rw [k1] at this
            cases this
            omega
        · have hp3I : decide (n3 = 0) = false := by simp; omega
          have hp3J : decide ((n3 : Int) = 0) = false := by simp; omega
          have hp3K : ((n3 : Int) != 0) = true := by simp; omega
          have hp3L : ((n3 : Int) == 0) = false := by simp; omega
          go_quiet (fail)
          go_wp2_with fail
          go_ret
          refine ⟨?_, hbqd.out _⟩
          suffices hrf : ¬ Ob.OkAt xs i by rw [nod.out hrf]; rfl
          rintro ⟨x', k1, k2, k3, k4, k5⟩
          have := hxx.out
          rw [k1] at this
          cases this
          rw [k3] at hn3; have := hn3.out; simp at this; omega
      · have hpr' : x.present = false := by simpa using hpr
        rw [hpr'] at x1
        go_quiet (fail)
        go_wp2_with fail
        go_ret
        refine ⟨?_, hbqd.out _⟩
        suffices hrf : ¬ Ob.OkAt xs i by rw [nod.out hrf]; rfl
        rintro ⟨x', h1, h2, -⟩
        have := hxx.out
        rw [h1] at this
        cases this
        exact hpr h2
    · have hltI : ¬ (i : Int) < (n : Int) := by omega
      go_wp2_with fail
      go_ret
      exact ⟨by rw [hrd.out.2 (fun j hj => hokd.out j (by have := hnl.out; omega))]; rfl, hbd.out⟩
theorem ismap_asc {xs : List Ob.It} (h : Ob.IsMap xs) : Ob.Asc xs := by
  have key : ∀ j, j < xs.length → ∀ i, i < j → ∀ x y, xs[i]? = some x → xs[j]? = some y → Go.Op.bytesLess x.key y.key = true := by
    intro j
    induction j with
    | zero => intro _ i hi; omega
    | succ j ih =>
      intro hj i hi x y hx hy
      obtain ⟨y', h1, -, -, -, h5⟩ := h (j + 1) hj
      rw [hy] at h1
      cases h1
      obtain ⟨z, hz⟩ : ∃ z, xs[j]? = some z := ⟨_, List.getElem?_eq_getElem (by omega)⟩
      have hzy := h5 z (by omega) (by simpa using hz)
      rcases Nat.lt_or_ge i j with hij | hij
      · exact Ob.less_trans (ih (by omega) i hij x z hx hz) hzy
      · obtain rfl : i = j := by omega
        rw [hx] at hz
        cases hz
        exact hzy
  refine List.pairwise_iff_getElem.2 fun i j hi hj hij => key j hj i hij _ _ (List.getElem?_eq_getElem hi) (List.getElem?_eq_getElem hj)
set_option maxRecDepth 100000 in
set_option maxHeartbeats 400000 in
/-- The root of a list that is a map. -/
theorem root_map (w : World) (hK : Kst w) {A : Option Addr} {n c : Nat} {xs : List Ob.It} (hx : RdI w (fun _ => True) A n c xs) (hn : n ≤ 1000) (hk : ∀ x ∈ xs, x.key.length ≤ 100000 ∧ x.content.length ≤ 1000000) (hm : Ob.IsMap xs) :
    Calls Tryd.prog 14 #[.slice A n c] w fun e w' => ∃ A m d, e = .returned (.tuple #[.slice A m d, .int .i64 0]) ∧ Rd w' (fun i => w.heap.size ≤ i) A m d (Ob.rootH xs) ∧ Below w.heap.size w w' := by
  go_enter Tryd.func14, Tryd.ntmps14
  go_wp2_with fail
  refine (check_any _ hx (by omega) (fun x h => (hk x h).1) true ⟨fun _ => hm, fun _ => rfl⟩).mono ?_
  rintro e w1 ⟨rfl, hb1⟩
  have hb1d := Lib.hid hb1
  clear hb1
  go_wp2_with fail
  refine (root_any n w1 (hK.below hb1d.out hK.pos) A n c xs (hx.fr (Fr.of_below (F := fun _ => False) hb1d.out) (fun _ _ h => h)) (ismap_asc hm) (Nat.le_refl _) hn hk).mono ?_
  rintro e w2 ⟨A2, n2, c2, rfl, hr2, hb2⟩
  go_wp2_with fail
  go_returns
  exact ⟨_, _, _, rfl, hr2.mono (fun i _ h => Nat.le_trans hb1d.out.size h), hb1d.out.trans (hb2.mono hb1d.out.size)⟩
set_option maxRecDepth 100000 in
/-- The root of a list that is no map. -/
theorem root_bad (w : World) {A : Option Addr} {n c : Nat} {xs : List Ob.It} (hx : RdI w (fun _ => True) A n c xs) (hn : n ≤ 1000) (hk : ∀ x ∈ xs, x.key.length ≤ 100000) (hm : ¬ Ob.IsMap xs) :
    Calls Tryd.prog 14 #[.slice A n c] w fun e w' => e = .returned (.tuple #[.slice none 0 0, .int .i64 1]) ∧ Below w.heap.size w w' := by
  go_enter Tryd.func14, Tryd.ntmps14
  go_wp2_with fail
  refine (check_any _ hx (by omega) hk false ⟨fun h => (by cases h), fun h => (hm h).elim⟩).mono ?_
  rintro e w1 ⟨rfl, hb1⟩
  go_wp2_with fail
  go_returns
  exact ⟨rfl, hb1⟩
end Go.Proofs.YthoaenpbmmjokaaDoor

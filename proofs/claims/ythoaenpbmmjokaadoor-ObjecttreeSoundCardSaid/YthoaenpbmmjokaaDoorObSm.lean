/-
  Whether items are small, walked.
-/
import Derived.Test.YthoaenpbmmjokaaDoorObChk
namespace Ob
/-- An item as small as the statements ask. -/
def SmallI (x : It) : Prop := x.key.length ≤ 300 ∧ x.content.length ≤ 300 ∧ x.path.length ≤ 40 ∧ ∀ p ∈ x.path, p.length ≤ 400
/-- Items as few and as small as the statements ask. -/
def Small (xs : List It) : Prop := xs.length ≤ 20 ∧ ∀ x ∈ xs, SmallI x
end Ob
namespace Go.Pl
open Go.RowKit
theorem RdS.get {w : World} {S : Nat → Prop} {A : Option Addr} {n c : Nat} {xs : List (List UInt8)} (h : RdS w S A n c xs) {i : Nat} {x : List UInt8} (hm : xs[i]? = some x) : ∃ b o s, A = some ⟨b, o, none⟩ ∧ S b ∧ b < w.heap.size ∧ SlIs w S s x ∧ w.cell? ⟨b, o + i, none⟩ = some s := by
  have hl := h.len
  obtain ⟨vs, h1, h2⟩ := h
  have hi := (List.getElem?_eq_some_iff.1 hm).1
  obtain ⟨b, o, hA, hS, hb, hc⟩ := h1.at_ (by omega)
  obtain ⟨s, k1, k2⟩ := h2.get hm
  exact ⟨b, o, s, hA, hS, hb, k1, (hc i (by omega)).trans k2⟩
end Go.Pl
namespace Go.Proofs.YthoaenpbmmjokaaDoor
open Go.RowKit Go.Pl
set_option maxRecDepth 100000 in
set_option maxHeartbeats 400000 in
theorem small_any (w : World) {A : Option Addr} {n c : Nat} {xs : List Ob.It} (hx : RdI w (fun _ => True) A n c xs) (r : Bool) (hr : r = true ↔ Ob.Small xs) :
    Calls Tryd.prog 12 #[.slice A n c] w fun e w' => e = .returned (.bool r) ∧ w = w' := by
  have hnl : Hid (n = xs.length) := hx.len
  have hxd := Lib.hid hx
  have hrd := Lib.hid hr
  have hno : Hid (¬ Ob.Small xs → r = false) := fun h => by
    cases hrr : r with
    | false => rfl
    | true => exact absurd (hrd.out.1 hrr) h
  clear hx hr
  go_enter Tryd.func12, Tryd.ntmps12
  by_cases hn : n ≤ 20
  · have hnI : decide (20 < n) = false := by simp; omega
    have hnJ : decide (20 < (n : Int)) = false := by simp; omega
    go_wp2_with fail
    go_loopw [3] (fun t3 wr => ∃ i : Nat, i ≤ n ∧ t3 = .int .i64 i ∧ (∀ j x, j < i → xs[j]? = some x → Ob.SmallI x) ∧ w = wr) (fun t3 _ => n - (intOf t3).toNat)
    case atStart => exact ⟨0, by omega, rfl, fun j x h => by omega, rfl⟩
    case round =>
      obtain ⟨i, hi, rfl, hok, rfl⟩ := hrel
      have hid := Lib.hid hi
      have hokd := Lib.hid hok
      clear hi hok
      by_cases hlt : i < n
      · have hltI : (i : Int) < (n : Int) := by omega
        obtain ⟨x, hx⟩ : ∃ x, xs[i]? = some x := ⟨_, List.getElem?_eq_getElem (by have := hnl.out; omega)⟩
        obtain ⟨b, o, s, p, rfl, -, hbl, ⟨A2, n2, c2, rfl, hs⟩, ⟨A3, n3, c3, rfl, hp⟩, c0, c1, c2', c3'⟩ := hxd.out.get hx
        have hxx := Lib.hid hx
        have hn2 : Hid (n2 = x.content.length) := hs.len
        have hn3 : Hid (n3 = x.path.length) := hp.len
        have hpd := Lib.hid hp
        clear hx hs hp c1
        have hsz : (⟨x.key.toArray⟩ : ByteArray).size = x.key.length := by simp [ByteArray.size]
        have nod : Hid (¬ Ob.SmallI x → r = false) := fun h => hno.out fun k => h (k.2 x (List.mem_of_getElem? hxx.out))
        by_cases hkl : x.key.length ≤ 300
        · have hkI : decide (300 < x.key.length) = false := by simp; omega
          have hkJ : decide (300 < (x.key.length : Int)) = false := by simp; omega
          by_cases hcl : n2 ≤ 300
          · have hcI : decide (300 < n2) = false := by simp; omega
            have hcJ : decide (300 < (n2 : Int)) = false := by simp; omega
            by_cases hpl : n3 ≤ 40
            · have hpI : decide (40 < n3) = false := by simp; omega
              have hpJ : decide (40 < (n3 : Int)) = false := by simp; omega
              go_wp2_with fail
              have hx3 : Hid (x.key.length ≤ 300 ∧ x.content.length ≤ 300 ∧ x.path.length ≤ 40) := ⟨hkl, by have := hn2.out; omega, by have := hn3.out; omega⟩
              have hin : Hid (i + 1 ≤ n) := hlt
              clear hkl hkI hkJ hcl hcI hcJ hpI hpJ hsz c0 c2'
              go_loopw [4] (fun t4 wr => ∃ k : Nat, k ≤ n3 ∧ t4 = .int .i64 k ∧ (∀ j y, j < k → x.path[j]? = some y → y.length ≤ 400) ∧ w = wr) (fun t4 _ => n3 - (intOf t4).toNat)
              case atStart => exact ⟨0, by omega, rfl, fun j x h => by omega, rfl⟩
              case round =>
                obtain ⟨k, hk, rfl, hok, rfl⟩ := hrel
                have hkd := Lib.hid hk
                have hokd2 := Lib.hid hok
                clear hk hok
                by_cases hlk : k < n3
                · have hlkI : (k : Int) < (n3 : Int) := by omega
                  obtain ⟨y, hy⟩ : ∃ y, x.path[k]? = some y := ⟨_, List.getElem?_eq_getElem (by have := hn3.out; omega)⟩
                  obtain ⟨b3, o3, s3, hA3, -, hbl3, ⟨A4, n4, c4, hs4, hr4⟩, d0⟩ := hpd.out.get hy
                  subst hA3
                  subst hs4
                  have hn4 : Hid (n4 = y.length) := hr4.len
                  have hyd := Lib.hid hy
                  clear hy hr4
                  by_cases hl4 : n4 ≤ 400
                  · have h4I : decide (400 < n4) = false := by simp; omega
                    have h4J : decide (400 < (n4 : Int)) = false := by simp; omega
                    go_wp2_with fail
                    go_roundw
                    case rel =>
                      refine ⟨k + 1, hlk, by go_num, fun j z hj hz => ?_, trivial⟩
                      rcases Nat.lt_or_ge j k with h | h
                      · exact hokd2.out j z h hz
                      · obtain rfl : j = k := by omega
                        rw [hyd.out] at hz
                        cases hz
                        have := hn4.out
                        omega
                    case measure => simp [intOf]; omega
                  · have h4I : decide (400 < n4) = true := by simp; omega
                    have h4J : decide (400 < (n4 : Int)) = true := by simp; omega
                    go_wp2_with fail
                    go_ret
                    refine ⟨?_, rfl⟩
                    rw [nod.out (fun h => by have := h.2.2.2 y (List.mem_of_getElem? hyd.out); have := hn4.out; omega)]; rfl
                · have hlkI : ¬ (k : Int) < (n3 : Int) := by omega
                  go_wp2_with fail
                  go_roundw
                  case rel =>
                    refine ⟨i + 1, hin.out, by go_num, fun j z hj hz => ?_, trivial⟩
                    rcases Nat.lt_or_ge j i with h | h
                    · exact hokd.out j z h hz
                    · obtain rfl : j = i := by omega
                      rw [hxx.out] at hz
                      cases hz
                      refine ⟨hx3.out.1, hx3.out.2.1, hx3.out.2.2, fun p hp => ?_⟩
                      obtain ⟨j2, hj2⟩ := List.getElem?_of_mem hp
                      have := (List.getElem?_eq_some_iff.1 hj2).1
                      exact hokd2.out j2 p (by have := hn3.out; omega) hj2
                  case measure => simp [intOf]; omega
            · have hpI : decide (40 < n3) = true := by simp; omega
              have hpJ : decide (40 < (n3 : Int)) = true := by simp; omega
              go_wp2_with fail
              go_ret
              refine ⟨?_, rfl⟩
              rw [nod.out (fun h => by have := h.2.2.1; have := hn3.out; omega)]; rfl
          · have hcI : decide (300 < n2) = true := by simp; omega
            have hcJ : decide (300 < (n2 : Int)) = true := by simp; omega
            go_wp2_with fail
            go_ret
            refine ⟨?_, rfl⟩
            rw [nod.out (fun h => by have := h.2.1; have := hn2.out; omega)]; rfl
        · have hkI : decide (300 < x.key.length) = true := by simp; omega
          have hkJ : decide (300 < (x.key.length : Int)) = true := by simp; omega
          go_wp2_with fail
          go_ret
          refine ⟨?_, rfl⟩
          rw [nod.out (fun h => by have := h.1; omega)]; rfl
      · have hltI : ¬ (i : Int) < (n : Int) := by omega
        go_wp2_with fail
        go_ret
        refine ⟨?_, rfl⟩
        rw [hrd.out.2 ⟨by have := hnl.out; omega, fun x hx => ?_⟩]
        · rfl
        · obtain ⟨j, hj⟩ := List.getElem?_of_mem hx
          have := (List.getElem?_eq_some_iff.1 hj).1
          exact hokd.out j x (by have := hnl.out; omega) hj
  · have hnI : decide (20 < n) = true := by simp; omega
    have hnJ : decide (20 < (n : Int)) = true := by simp; omega
    go_wp2_with fail
    go_ret
    refine ⟨?_, rfl⟩
    rw [hno.out (fun h => by have := h.1; have := hnl.out; omega)]; rfl
end Go.Proofs.YthoaenpbmmjokaaDoor

/-
  The reference's small functions, walked.
-/
import Derived.Test.YtplijfgjdlghbaaBAwk
import Derived.Test.YtplijfgjdlghbaaStr
namespace Go.Pl
open Go.RowKit
/-- The cells of votes: the sender, the payload as a string. -/
def vcs : Bra.Votes → List Value
  | [] => []
  | x :: r => .int .i64 x.1 :: .string ⟨x.2.toArray⟩ :: vcs r
theorem vcs_len : ∀ v : Bra.Votes, (vcs v).length = v.length * 2
  | [] => rfl
  | x :: r => by simp [vcs, vcs_len r]; omega
theorem vcs_get : ∀ (v : Bra.Votes) (i : Nat) (h : i < v.length), (vcs v)[i * 2]? = some (.int .i64 v[i].1) ∧ (vcs v)[i * 2 + 1]? = some (.string ⟨v[i].2.toArray⟩)
  | x :: r, 0, _ => ⟨rfl, rfl⟩
  | x :: r, i + 1, h => by
    have := vcs_get r i (by simpa using h)
    rw [show (i + 1) * 2 = i * 2 + 2 by omega]
    simpa [vcs] using this
theorem vcs_snoc (v : Bra.Votes) (x : Int × List UInt8) : vcs (v ++ [x]) = vcs v ++ [.int .i64 x.1, .string ⟨x.2.toArray⟩] := by
  induction v with
  | nil => rfl
  | cons a r ih => simp [vcs, ih]
end Go.Pl
namespace Go.Proofs.Ytplijfgjdlghbaa
open Go.RowKit Go.Pl
theorem rfaults_any (w : World) (n : Nat) (h : n ≤ 1000) : Calls Try.prog 37 #[.int .i64 n] w fun e w' => e = .returned (.int .i64 (Bra.faults n)) ∧ w = w' := by
  by_cases hn : (n : Int) < 1
  · have e : ((Bra.faults n : Nat) : Int) = 0 := by unfold Bra.faults; omega
    rw [e]
    clear e
    go_enter Try.func37, Try.ntmps37
    go_wp2_with fail
    go_ret
    exact ⟨rfl, rfl⟩
  · have e : Hid (((Bra.faults n : Nat) : Int) = ((n : Int) - 1) / 3) := by
      show _ = _
      unfold Bra.faults
      omega
    go_enter Try.func37, Try.ntmps37
    go_wp2_with fail
    go_ret
    exact ⟨by rw [e.out]; rfl, rfl⟩
set_option maxRecDepth 100000 in
theorem rvoted_any (w : World) {S : Nat → Prop} {A : Option Addr} {n c : Nat} {v : Bra.Votes} (h : Row w S 2 A n c (vcs v)) (hn : n ≤ 1000000) (x : Int) :
    Calls Try.prog 38 #[.slice A n c, .int .i64 x] w fun e w' => e = .returned (.bool (Bra.voted v x)) ∧ w = w' := by
  have hl : Hid (n = v.length) := by show _ = _; have := h.len; rw [vcs_len] at this; omega
  have hd := Lib.hid h
  clear h
  go_enter Try.func38, Try.ntmps38
  go_wp2_with fail
  go_loopw [5] (fun t5 wr => ∃ i : Nat, i ≤ n ∧ t5 = .int .i64 i ∧ Bra.voted (v.take i) x = false ∧ wr = w) (fun t5 _ => n - (intOf t5).toNat)
  case atStart => exact ⟨0, by omega, rfl, rfl, rfl⟩
  case round =>
    obtain ⟨i, hi, rfl, hv, rfl⟩ := hrel
    have hvd := Lib.hid hv
    clear hv
    by_cases hlt : i < n
    · have hltI : (i : Int) < (n : Int) := by omega
      have hil : i < v.length := by rw [← hl.out]; exact hlt
      obtain ⟨b, o, rfl, -, -, hc⟩ := hd.out.at_ (by omega)
      obtain ⟨y, hy⟩ : ∃ y, v[i] = y := ⟨_, rfl⟩
      have c0 := (hc (i * 2) (by omega)).trans (vcs_get v i hil).1
      rw [hy] at c0
      have htk : Hid (v.take (i + 1) = v.take i ++ [y]) := by show _ = _; rw [List.take_succ_eq_append_getElem hil, hy]
      have hmem : Hid (y ∈ v) := by show _ ∈ _; rw [← hy]; exact List.getElem_mem hil
      clear hc hy
      by_cases he : y.1 = x
      · have hb : (y.1 == x) = true := by simpa using he
        go_wp2_with fail
        go_ret
        refine ⟨?_, rfl⟩
        have : Bra.voted v x = true := List.any_eq_true.2 ⟨y, hmem.out, hb⟩
        rw [this]; rfl
      · have hb : (y.1 == x) = false := by simpa using he
        go_wp2_with fail
        go_roundw
        case rel => exact ⟨i + 1, by omega, by go_num, by rw [htk.out]; unfold Bra.voted at *; rw [List.any_append, hvd.out]; simpa using hb, trivial⟩
        case measure => simp [intOf]; omega
    · have hltI : ¬ (i : Int) < (n : Int) := by omega
      have hin : Hid (i = n) := by show _ = _; omega
      go_wp2_with fail
      go_ret
      have := hvd.out
      rw [hin.out, hl.out, List.take_of_length_le (Nat.le_refl _)] at this
      exact ⟨by rw [this]; rfl, rfl⟩
set_option maxRecDepth 100000 in
theorem rcount_any (w : World) {S : Nat → Prop} {A : Option Addr} {n c : Nat} {v : Bra.Votes} (h : Row w S 2 A n c (vcs v)) (hn : n ≤ 1000000) (s : List UInt8) :
    Calls Try.prog 39 #[.slice A n c, .string ⟨s.toArray⟩] w fun e w' => e = .returned (.int .i64 (Bra.count v s)) ∧ w = w' := by
  have hl : Hid (n = v.length) := by show _ = _; have := h.len; rw [vcs_len] at this; omega
  have hd := Lib.hid h
  clear h
  go_enter Try.func39, Try.ntmps39
  go_wp2_with fail
  go_loopw [5, 6] (fun t5 t6 wr => ∃ i : Nat, i ≤ n ∧ t6 = .int .i64 i ∧ t5 = .int .i64 (Bra.count (v.take i) s) ∧ wr = w) (fun _ t6 _ => n - (intOf t6).toNat)
  case atStart => exact ⟨0, by omega, rfl, rfl, rfl⟩
  case round =>
    obtain ⟨i, hi, rfl, rfl, rfl⟩ := hrel
    by_cases hlt : i < n
    · have hltI : (i : Int) < (n : Int) := by omega
      have hil : i < v.length := by rw [← hl.out]; exact hlt
      obtain ⟨b, o, rfl, -, -, hc⟩ := hd.out.at_ (by omega)
      obtain ⟨y, hy⟩ : ∃ y, v[i] = y := ⟨_, rfl⟩
      have c1 := (hc (i * 2 + 1) (by omega)).trans (vcs_get v i hil).2
      rw [hy, ← Nat.add_assoc] at c1
      have hcs : Hid (Bra.count (v.take (i + 1)) s = Bra.count (v.take i) s + (if y.2 = s then 1 else 0)) := by
        show _ = _
        rw [List.take_succ_eq_append_getElem hil, hy]
        exact Bra.count_snoc _ y.1 y.2 s
      have hle : Bra.count (v.take i) s ≤ 1000000 := Nat.le_trans (Bra.count_le _ _) (by rw [List.length_take]; omega)
      obtain ⟨cn, hcn⟩ : ∃ cn, Bra.count (v.take i) s = cn := ⟨_, rfl⟩
      rw [hcn] at hcs hle ⊢
      clear hc hy hcn
      by_cases he : y.2 = s
      · have hb : (y.2 == s) = true := by simpa using he
        have hcs2 : Hid (Bra.count (v.take (i + 1)) s = cn + 1) := by show _ = _; rw [hcs.out, if_pos he]
        clear he hcs
        go_wp2_with fail
        go_roundw
        case rel => exact ⟨i + 1, by omega, by go_num, by rw [hcs2.out]; go_num, trivial⟩
        case measure => simp [intOf]; omega
      · have hb : (y.2 == s) = false := by simpa using he
        have hcs2 : Hid (Bra.count (v.take (i + 1)) s = cn) := by show _ = _; rw [hcs.out, if_neg he]; rfl
        clear he hcs
        go_wp2_with fail
        go_roundw
        case rel => exact ⟨i + 1, by omega, by go_num, by rw [hcs2.out], trivial⟩
        case measure => simp [intOf]; omega
    · have hltI : ¬ (i : Int) < (n : Int) := by omega
      have hin : Hid (i = n) := by show _ = _; omega
      have ht : Hid (v.take i = v) := by show _ = _; rw [hin.out, hl.out]; exact List.take_of_length_le (Nat.le_refl _)
      rw [ht.out]
      go_wp2_with fail
      go_ret
      exact ⟨rfl, rfl⟩
end Go.Proofs.Ytplijfgjdlghbaa

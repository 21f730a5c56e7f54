/-
  The small functions of package bracha, walked.
-/
import Derived.Test.YtplijfgjdlghbaaBProc
import Derived.Test.YtplijfgjdlghbaaOrdR
import Derived.Test.YtplijfgjdlghbaaProg
namespace Go.Proofs.Ytplijfgjdlghbaa
open Go.RowKit Go.Pl
theorem eq_nil (w : World) (d : Nat) (a : Option Addr) (l c : Nat) : (Op.equalIn (d + 1) 33 (.slice a l c) (.slice none 0 0)).run Try.prog w = .ok a.isNone w := by
  cases a <;> simp [Op.equalIn, run_underlying Try.underlying33]
theorem eq_nil' (w : World) (a : Option Addr) (l c : Nat) : (Op.equal 33 (.slice a l c) (.slice none 0 0)).run Try.prog w = .ok a.isNone w := eq_nil w 9999 a l c
theorem eql_nil (w : World) (a : Option Addr) (n c : Nat) : (binOp .eql 33 (.slice a n c) (.slice none 0 0)).run Try.prog w = .ok (.bool a.isNone) w := by
  simp [binOp, eq_nil' w a n c]
set_option maxRecDepth 100000 in
theorem clone_any {w : World} {S : Nat → Prop} {A : Option Addr} {n c : Nat} {bs : List UInt8} (h : Rd w S A n c bs) (hf : Fits bs) :
    Calls Try.prog 35 #[.slice A n c] w fun e w' => ∃ v, e = .returned v ∧ SlIs w' (fun i => w.heap.size ≤ i) v bs ∧ Below w.heap.size w w' := by
  have hq : ∀ w, (binOp .eql 33 (.slice A n c) (.slice none 0 0)).run Try.prog w = .ok (.bool A.isNone) w := fun w => eql_nil w A n c
  by_cases hA : A.isNone = true
  · obtain rfl : A = none := by simpa using hA
    obtain rfl : c = 0 := h.none rfl
    obtain rfl : n = 0 := by have := h.le; omega
    have hb : bs = [] := List.eq_nil_of_length_eq_zero h.len.symm
    subst hb
    rw [hA] at hq
    clear h hA
    go_enter Try.func35, Try.ntmps35
    go_wp2_with fail
    go_ret
    exact ⟨_, rfl, ⟨none, 0, 0, rfl, rfl, Nat.le_refl _, by simp [maxLen], fun _ => rfl, fun h => by omega⟩, Below.refl _ _⟩
  · rw [(Bool.not_eq_true _).mp hA] at hq
    clear hA
    have o1 := own_alloc w (Nat.le_refl _) 5 [] #[] rfl rfl (by decide)
    have f1 : Fr (fun _ => False) w (w.alloc (.cells #[] 5)) := (Fr.refl (fun _ => False) w).alloc _
    have b1 := (h.fr f1 (fun _ _ h => h)).all
    have hN : Hid ((([] : List UInt8) ++ bs).length = n) := h.len.symm
    have hl : Hid (([] : List UInt8).length + bs.length ≤ 140737488355328) := by show _ ≤ _; unfold Fits at hf; simpa using hf
    clear h hf
    go_enter Try.func35, Try.ntmps35
    go_wp2_with (
      ((with_reducible refine wpl_append_sl _ rfl (.tmp 5) (.tmp 6) 33 rfl w.heap.size 5 Try.underlying33 ?_ _ ?_ [] o1 _ _ ?_ bs b1 hl.out f1.size n hN.out ?_); kernel_rfl; rfl; rfl; intro As cs w2 ho2 hg2 hz2; rw [List.nil_append] at ho2;
          have f2 := f1.grown hg2 (fun g h => .inr ((own_lt o1 g h).1));
          have hb2 := f2.below (B := w.heap.size) (fun _ h => h.elim) (Nat.le_refl _);
          have hr2 := (own_rd ho2).mono (T := fun i => w.heap.size ≤ i) (fun i _ h => (own_lt ho2 i h).1);
          clear hg2 hz2 o1 f1 b1 f2 ho2))
    go_ret
    exact ⟨_, rfl, ⟨_, _, _, rfl, hr2⟩, hb2⟩
theorem bequal_any (w : World) {S1 S2 : Nat → Prop} {A1 A2 : Option Addr} {n1 c1 n2 c2 : Nat} {a b : List UInt8} (h1 : Rd w S1 A1 n1 c1 a) (h2 : Rd w S2 A2 n2 c2 b) :
    Calls Try.prog 33 #[.slice A1 n1 c1, .slice A2 n2 c2] w fun e w' => e = .returned (.bool (a == b)) ∧ w = w' := by
  have b1 := h1.all
  have b2 := h2.all
  clear h1 h2
  go_enter Try.func33, Try.ntmps33
  go_wp2_with (first
    | ((with_reducible refine wpl_string_bytes _ rfl 33 9 5 (.tmp 5) rfl ?_ ?_ ?_ w.heap.size _ ?_ _ b1 ?_); rfl; rfl; rfl; rfl)
    | ((with_reducible refine wpl_string_bytes _ rfl 33 9 5 (.tmp 7) rfl ?_ ?_ ?_ w.heap.size _ ?_ _ b2 ?_); rfl; rfl; rfl; rfl))
  go_ret
  exact ⟨rfl, rfl⟩
theorem faults_any (w : World) (n : Int) (h : I64 n) : Calls Try.prog 26 #[.int .i64 n] w fun e w' => e = .returned (.int .i64 (Bra.faults n.toNat)) ∧ w = w' := by
  obtain ⟨h1, h2⟩ := h
  by_cases hn : n < 1
  · have e : ((Bra.faults n.toNat : Nat) : Int) = 0 := by unfold Bra.faults; omega
    rw [e]
    clear e
    go_enter Try.func26, Try.ntmps26
    go_wp2_with fail
    go_ret
    exact ⟨rfl, rfl⟩
  · have e : Hid (((Bra.faults n.toNat : Nat) : Int) = (n - 1) / 3) := by
      show _ = _
      unfold Bra.faults
      omega
    go_enter Try.func26, Try.ntmps26
    go_wp2_with fail
    go_ret
    exact ⟨by rw [e.out]; rfl, rfl⟩
theorem is_any (w : World) {G n : Nat} (h : w.cell? ⟨G, 0, none⟩ = some (.int .i64 n)) (x : Int) :
    Calls Try.prog 31 #[.pointer (some ⟨G, 0, none⟩), .int .i64 x] w fun e w' => e = .returned (.bool (decide (0 ≤ x) && decide (x < n))) ∧ w = w' := by
  by_cases h0 : 0 ≤ x
  · by_cases h1 : x < n
    · rw [decide_eq_true h0, decide_eq_true h1]
      go_enter Try.func31, Try.ntmps31
      go_wp2_with fail
      go_ret
      exact ⟨rfl, rfl⟩
    · rw [decide_eq_true h0, decide_eq_false h1]
      go_enter Try.func31, Try.ntmps31
      go_wp2_with fail
      go_ret
      exact ⟨rfl, rfl⟩
  · rw [decide_eq_false h0]
    go_enter Try.func31, Try.ntmps31
    go_wp2_with fail
    go_ret
    exact ⟨rfl, rfl⟩
end Go.Proofs.Ytplijfgjdlghbaa

/-
  bytes.Clone and bytes.Equal, walked; strings that are equal.
-/
import Derived.Test.YthoaenpbmmjokaaDoorObTree
namespace Go.Proofs.YthoaenpbmmjokaaDoor
open Go.RowKit Go.Pl
theorem eq_nil (w : World) (d : Nat) (a : Option Addr) (l c : Nat) : (Op.equalIn (d + 1) 23 (.slice a l c) (.slice none 0 0)).run Tryd.prog w = .ok a.isNone w := by
  cases a <;> simp [Op.equalIn, run_underlying Tryd.underlying23]
theorem eq_nil' (w : World) (a : Option Addr) (l c : Nat) : (Op.equal 23 (.slice a l c) (.slice none 0 0)).run Tryd.prog w = .ok a.isNone w := eq_nil w 9999 a l c
theorem eql_nil (w : World) (a : Option Addr) (n c : Nat) : (binOp .eql 23 (.slice a n c) (.slice none 0 0)).run Tryd.prog w = .ok (.bool a.isNone) w := by
  simp [binOp, eq_nil' w a n c]
set_option maxRecDepth 100000 in
theorem clone_any (w : World) {S : Nat → Prop} {A : Option Addr} {n c : Nat} {bs : List UInt8} (h : Rd w S A n c bs) (hf : bs.length ≤ 1000000) :
    Calls Tryd.prog 43 #[.slice A n c] w fun e w' => ∃ A m c, e = .returned (.slice A m c) ∧ Rd w' (fun i => w.heap.size ≤ i) A m c bs ∧ Below w.heap.size w w' := by
  have hq : ∀ w, (binOp .eql 23 (.slice A n c) (.slice none 0 0)).run Tryd.prog w = .ok (.bool A.isNone) w := fun w => eql_nil w A n c
  by_cases hA : A.isNone = true
  · obtain rfl : A = none := by simpa using hA
    obtain rfl : c = 0 := h.none rfl
    obtain rfl : n = 0 := by have := h.le; omega
    have hb : bs = [] := List.eq_nil_of_length_eq_zero h.len.symm
    subst hb
    rw [hA] at hq
    clear h hA
    go_enter Tryd.func43, Tryd.ntmps43
    go_wp2_with fail
    go_ret
    exact ⟨none, 0, 0, rfl, ⟨rfl, Nat.le_refl _, by simp [maxLen], fun _ => rfl, fun h => by omega⟩, Below.refl _ _⟩
  · rw [(Bool.not_eq_true _).mp hA] at hq
    clear hA
    have o1 := own_alloc w (Nat.le_refl _) 5 [] #[] rfl rfl (by decide)
    have f1 : Fr (fun _ => False) w (w.alloc (.cells #[] 5)) := (Fr.refl (fun _ => False) w).alloc _
    have b1 := (h.fr f1 (fun _ _ h => h)).all
    have hN : Hid ((([] : List UInt8) ++ bs).length = n) := h.len.symm
    have hl : Hid (([] : List UInt8).length + bs.length ≤ 140737488355328) := by show _ ≤ _; simp; omega
    clear h hf
    go_enter Tryd.func43, Tryd.ntmps43
    go_wp2_with (
      ((with_reducible refine wpl_append_sl _ rfl (.tmp 5) (.tmp 6) 23 rfl w.heap.size 5 Tryd.underlying23 ?_ _ ?_ [] o1 _ _ ?_ bs b1 hl.out f1.size n hN.out ?_); kernel_rfl; rfl; rfl; intro As cs w2 ho2 hg2 hz2; rw [List.nil_append] at ho2;
          have f2 := f1.grown hg2 (fun g h => .inr ((own_lt o1 g h).1));
          have hb2 := f2.below (B := w.heap.size) (fun _ h => h.elim) (Nat.le_refl _);
          have hr2 := (own_rd ho2).mono (T := fun i => w.heap.size ≤ i) (fun i _ h => (own_lt ho2 i h).1);
          clear hg2 hz2 o1 f1 b1 f2 ho2))
    go_ret
    exact ⟨_, _, _, rfl, hr2, hb2⟩
theorem bequal_any (w : World) {S1 S2 : Nat → Prop} {A1 A2 : Option Addr} {n1 c1 n2 c2 : Nat} {a b : List UInt8} (h1 : Rd w S1 A1 n1 c1 a) (h2 : Rd w S2 A2 n2 c2 b) :
    Calls Tryd.prog 35 #[.slice A1 n1 c1, .slice A2 n2 c2] w fun e w' => e = .returned (.bool (a == b)) ∧ w = w' := by
  have b1 := h1.all
  have b2 := h2.all
  clear h1 h2
  go_enter Tryd.func35, Tryd.ntmps35
  go_wp2_with (first
    | ((with_reducible refine wpl_string_bytes _ rfl 23 9 5 (.tmp 5) rfl ?_ ?_ ?_ w.heap.size _ ?_ _ b1 ?_); rfl; rfl; rfl; rfl)
    | ((with_reducible refine wpl_string_bytes _ rfl 23 9 5 (.tmp 7) rfl ?_ ?_ ?_ w.heap.size _ ?_ _ b2 ?_); rfl; rfl; rfl; rfl))
  go_ret
  exact ⟨rfl, rfl⟩
theorem bool_of {r : Bool} {p : Prop} (hr : r = true ↔ p) (h : ¬ p) : r = false := by
  cases hrr : r with
  | false => rfl
  | true => exact absurd (hr.1 hrr) h
theorem str_eq {a b : List UInt8} (r : Bool) (hr : r = true ↔ a = b) : ((⟨a.toArray⟩ : ByteArray).toList == (⟨b.toArray⟩ : ByteArray).toList) = r := by
  rw [Ob.toList_bytes, Ob.toList_bytes]
  cases r with
  | true => simpa using hr.1 rfl
  | false =>
    have : ¬ a = b := fun h => by cases hr.2 h
    simpa using this
end Go.Proofs.YthoaenpbmmjokaaDoor

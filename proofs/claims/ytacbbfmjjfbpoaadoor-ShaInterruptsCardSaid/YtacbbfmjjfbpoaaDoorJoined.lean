/-
  The pieces one behind the other.
-/
import Derived.Test.YtacbbfmjjfbpoaaDoorArg
import Derived.Test.YtacbbfmjjfbpoaaDoorAwake
import Derived.Lib.Hide
import Derived.Test.YtacbbfmjjfbpoaaDoorLClones
namespace Go.Pl
theorem flat_take (xs : List (List UInt8)) (k : Nat) (h : k < xs.length) : (xs.take (k + 1)).flatten = (xs.take k).flatten ++ xs.getD k [] := by
  rw [List.take_succ_eq_append_getElem h, List.flatten_append]
  simp [h]
theorem flat_all (xs : List (List UInt8)) (k : Nat) (h : xs.length ≤ k) : (xs.take k).flatten = xs.flatten := by rw [List.take_of_length_le h]
theorem flat_le (xs : List (List UInt8)) (k : Nat) : (xs.take k).flatten.length ≤ xs.flatten.length := by
  have h : xs.flatten = (xs.take k).flatten ++ (xs.drop k).flatten := by rw [← List.flatten_append, List.take_append_drop]
  rw [h, List.length_append]; omega
theorem flat_pre (xs : List (List UInt8)) (k : Nat) : xs.flatten.take (xs.take k).flatten.length = (xs.take k).flatten := by
  have h : xs.flatten = (xs.take k).flatten ++ (xs.drop k).flatten := by rw [← List.flatten_append, List.take_append_drop]
  rw [h, List.take_left']
  rfl
section
variable {P : Program} {ops : Array Oper} {rest : List Oper} {o : Oper} {a : Act} {Q : Exit → Act → World → Prop} {w : World}
theorem wpl_slice_to (hgd : o.guard = none) (t : TypeId) (x l : Operand) (ho : o.op = .slice t x none (some l) none) (e : TypeId) (ht : P.underlying t = some (.slice e)) (hi : (P.info? e).map (fun i => (i.zero, i.size, i.bytes)) = some (some (.int .u8 0), 1, 1))
    (A : Option Addr) (n c : Nat) (hx : a.eval x = .slice A n c) (kl : IntKind) (k : Nat) (hl : a.eval l = .int kl (k : Int)) (hk : k ≤ c)
    (h : wpList P ops Q rest (a.put o.dst (.slice A k c)) w) : wpList P ops Q (o :: rest) a w := by
  refine wpl_value w hgd (.slice A k c) ?_ h
  unfold execOp
  simp only [ho, hx, Option.map_some, Option.map_none, hl, Sem.run_bind, run_sliceAt_to t e ht hi A n c k kl hk, Result.andThen_ok, Sem.run_pure]
end
end Go.Pl
namespace Go.Proofs.YtacbbfmjjfbpoaaDoor
open Go.RowKit Go.Pl
theorem RdR.up {w w' : World} {S : Nat → Prop} {A : Option Addr} {n c : Nat} {xs : List (List UInt8)} (h : RdR w S A n c xs) (hb : Below w.heap.size w w') : RdR w' S A n c xs := h.keep hb.size fun _ hq _ => hb.cell hq
theorem RdR.fr {F : Nat → Prop} {w w' : World} {S : Nat → Prop} {A : Option Addr} {n c : Nat} {xs : List (List UInt8)} (h : RdR w S A n c xs) (hf : Fr F w w') (hF : ∀ i, S i → ¬ F i) : RdR w' S A n c xs := h.keep hf.size fun _ hb hS => hf.cell hb (hF _ hS)
def Joined (w : World) (xs : List (List UInt8)) (e : Ending) (w' : World) : Prop :=
  Below w.heap.size w w' ∧ (e = .returned (.tuple #[.slice none 0 0, .bool false]) ∨
    ∃ A c, e = .returned (.tuple #[.slice A xs.flatten.length c, .bool true]) ∧ xs.flatten.length ≤ 2000 ∧ w'.ownsRow w.heap.size 5 1 (.slice A xs.flatten.length c) xs.flatten.length (xs.flatten.map u8v))
set_option maxRecDepth 100000 in
set_option maxHeartbeats 2000000 in
theorem joined_any {A : Option Addr} {n c : Nat} {xs : List (List UInt8)} (w : World) (hA : RdR w (fun _ => True) A n c xs) :
    Calls Tryd.prog 13 #[.slice A n c] w fun e w' => Joined w xs e w' := by
  have hn := hA.len
  have hA' : RdR w (fun i => i < w.heap.size) A n c xs := hA.mono (fun i hi _ => hi)
  clear hA
  by_cases hl : 2000 < n
  · clear hn
    go_enter Tryd.func13, Tryd.ntmps13
    go_wp2_with fail
    go_ret2
    exact ⟨Below.refl _ _, .inl rfl⟩
  · have hl' : n ≤ 2000 := by omega
    have hn' : Hid (n = xs.length) := hn
    clear hl hn
    go_enter Tryd.func13, Tryd.ntmps13
    go_wp2_with fail
    go_loopw [4, 5] (fun t4 t5 wr => ∃ k A2 n2 c2, k ≤ n ∧ t5 = .int .i64 (k : Int) ∧ t4 = .slice A2 n2 c2 ∧ n2 ≤ 2000 ∧ (xs.take k).flatten.length = n2 ∧ wr.ownsRow w.heap.size 5 1 (.slice A2 n2 c2) n2 (((xs.take k).flatten).map u8v) ∧ Fr (fun _ => False) w wr) (fun _ t5 _ => n - (intOf t5).toNat)
    case atStart => exact ⟨0, none, 0, 0, Nat.zero_le _, rfl, rfl, by omega, rfl, ⟨rfl, .inl ⟨rfl, rfl⟩⟩, Fr.refl _ _⟩
    case round =>
      obtain ⟨k, A2, n2, c2, hk, rfl, rfl, hn2, hlen, hor, hfr⟩ := hrel
      have hA2 := hA'.fr hfr (fun _ _ h => h)
      obtain ⟨O, hO'⟩ : ∃ O, (xs.take k).flatten = O := ⟨_, rfl⟩
      rw [hO'] at hor hlen
      by_cases hlt : k < n
      · obtain ⟨b, o, rfl, hSb, hbl, hc⟩ := hA2.at_ (by omega)
        obtain ⟨Ar, cr, hcell, hrd⟩ := hc k hlt
        obtain ⟨Z, hZ'⟩ : ∃ Z, xs.getD k [] = Z := ⟨_, rfl⟩
        rw [hZ'] at hcell hrd
        have hsucc : Hid ((xs.take (k + 1)).flatten = O ++ Z) := by show _ = _; rw [flat_take xs k (by have := hn'.out; omega), hO', hZ']
        have hZc : Z.length ≤ maxLen := by have := hrd.le; have := hrd.max; omega
        unfold maxLen at hZc
        clear hZ' hO' hc
        obtain ⟨m, hm⟩ : ∃ m, Z.length = m := ⟨_, rfl⟩
        rw [hm] at hcell hrd hZc
        by_cases hgt : 2000 - n2 < m
        · have hgt' : (2000 : Int) - (n2 : Int) < (m : Int) := by omega
          clear hm hlen hor hsucc hrd
          go_wp2_with fail
          go_ret2
          exact ⟨hfr.below (fun _ h => h.elim) (Nat.le_refl _), .inl rfl⟩
        · have hgt' : (m : Int) ≤ (2000 : Int) - (n2 : Int) := by omega
          have hOZ : (O ++ Z).length = n2 + m := by rw [List.length_append]; omega
          have hor' : wr.ownsRow w.heap.size 5 1 (.slice A2 n2 c2) O.length (O.map u8v) := by rw [hlen]; exact hor
          have hsm : O.length + Z.length ≤ 140737488355328 := by omega
          have hsl : n2 + m ≤ 2000 := by omega
          have hml : m ≤ 2000 := by omega
          clear hm hlen hor hgt
          go_wp2_with ((with_reducible refine wpl_append_sl _ rfl (.tmp 24) (.tmp 28) 22 rfl w.heap.size 5 ?_ ?_ _ ?_ O hor' _ _ ?_ Z hrd.all hsm hfr.size (n2 + m) hOZ ?_); rfl; kernel_rfl; rfl; rfl; intro A3 c3 w3 ho3 hg3 hz3)
          go_roundw
          case rel => exact ⟨k + 1, A3, n2 + m, c3, hlt, by go_num, rfl, hsl, by rw [hsucc.out]; exact hOZ, by rw [hsucc.out]; exact ho3, hfr.grown hg3 (fun g h => .inr (own_base hor' h))⟩
          case measure => simp [intOf]; omega
      · have hO : O = xs.flatten := by rw [← hO']; exact flat_all xs k (by have := hn'.out; omega)
        subst hO
        subst hlen
        clear hO'
        go_wp2_with fail
        go_ret2
        exact ⟨hfr.below (fun _ h => h.elim) (Nat.le_refl _), .inr ⟨A2, c2, rfl, hn2, hor⟩⟩
end Go.Proofs.YtacbbfmjjfbpoaaDoor

/-
  Rows of the call's own that begin somewhere in their block, over whatever program.
-/
import Derived.Test.YtajohibeoicepaaDoorOwn
namespace Go.Pl
open Go.RowKit
/-- The slice owns a row: its block is known, and reaches to the slice's capacity. -/
def OwnO (w : World) (e : TypeId) (sz : Nat) (A : Option Addr) (n c : Nat) (xs : List Value) : Prop :=
  xs.length = n * sz ∧ ((n = 0 ∧ c = 0 ∧ ∀ g, (Value.slice A n c).ownBlock = some g → g < w.heap.size) ∨ ∃ g off cur, A = some ⟨g, off, none⟩ ∧ Blk w g e cur ∧ n ≤ c ∧ c ≤ maxLen ∧ off + c * sz = cur.size ∧ (cur.toList.drop off).take (n * sz) = xs)
section
variable {w w' : World} {e : TypeId} {sz : Nat} {A : Option Addr} {n c : Nat} {xs : List Value}
theorem OwnO.of {base : Nat} (h : w.ownsRow base e sz (.slice A n c) n xs) : OwnO w e sz A n c xs := by
  refine ⟨h.1, ?_⟩
  rcases h.2 with ⟨he, h0⟩ | ⟨g, cap, cur, he, hb, hg, hnc, hcm, hcs, ht⟩
  · cases he; exact .inl ⟨rfl, rfl, fun g hg => by simp [Value.ownBlock] at hg⟩
  · cases he
    exact .inr ⟨g, 0, cur, rfl, hg, hnc, hcm, by omega, by simpa using ht⟩
theorem OwnO.fr {F : Nat → Prop} (h : OwnO w e sz A n c xs) (hf : Fr F w w') (hn : ∀ g, (Value.slice A n c).ownBlock = some g → ¬ F g) : OwnO w' e sz A n c xs := by
  refine ⟨h.1, ?_⟩
  rcases h.2 with h0 | ⟨g, off, cur, rfl, hg, rest⟩
  · exact .inl ⟨h0.1, h0.2.1, fun g hg => Nat.lt_of_lt_of_le (h0.2.2 g hg) hf.size⟩
  · exact .inr ⟨g, off, cur, rfl, hg.fr hf (hn g rfl), rest⟩
theorem OwnO.le (h : OwnO w e sz A n c xs) : n ≤ c ∧ c ≤ maxLen := by
  rcases h.2 with ⟨rfl, rfl, _⟩ | ⟨g, off, cur, _, _, h1, h2, _⟩
  · exact ⟨Nat.le_refl _, by simp [maxLen]⟩
  · exact ⟨h1, h2⟩
theorem OwnO.lt (h : OwnO w e sz A n c xs) : ∀ g, (Value.slice A n c).ownBlock = some g → g < w.heap.size := by
  intro g hg
  rcases h.2 with ⟨_, _, h0⟩ | ⟨g', off, cur, rfl, hb, _⟩
  · exact h0 g hg
  · simp [Value.ownBlock] at hg
    subst hg
    exact hb.lt
theorem OwnO.row (h : OwnO w e sz A n c xs) : Row w (fun i => (Value.slice A n c).ownBlock = some i) sz A n c xs := by
  obtain ⟨hl, h⟩ := h
  rcases h with ⟨rfl, rfl, _⟩ | ⟨g, off, cur, rfl, hg, hnc, hcm, hcs, ht⟩
  · exact ⟨hl, Nat.le_refl _, by simp [maxLen], fun _ => rfl, fun h => by omega⟩
  · refine ⟨hl, hnc, hcm, (fun e => by cases e), fun _ => ⟨g, off, rfl, rfl, hg.lt, fun i hi => ?_⟩⟩
    rw [hg.cell (off + i), ← ht, List.getElem?_take, if_pos hi, List.getElem?_drop, Array.getElem?_toList]
end
section
variable {P : Program} {ops : Array Oper} {rest : List Oper} {o : Oper} {a : Act} {Q : Exit → Act → World → Prop} {w : World}
theorem run_append_room_off (t ty e : TypeId) (i : TypeInfo) (ht : P.underlying t = some (.slice e)) (hi : P.info? e = some i)
    (g off sLen sCap : Nat) (cur : Array Value) (hg : w.heap[g]? = some (.cells cur e (0, 0)))
    (a : Addr) (m c : Nat) (news : List Value) (hl : news.length = m * i.size) (hnews : ∀ j u, news[j]? = some u → w.cell? (a.add j) = some u) (h1 : ∀ u ∈ news, u.oneCell' = true)
    (hroom : sLen + m ≤ sCap) (hfit : off + sLen * i.size + news.length ≤ cur.size) :
    (Builtin.append_ #[t, t] ty #[.slice (some ⟨g, off, none⟩) sLen sCap, .slice (some a) m c]).run P w =
      .ok (.slice (some ⟨g, off, none⟩) (sLen + m) sCap) (w.setRow g (cur.toList.take (off + sLen * i.size) ++ news ++ cur.toList.drop (off + sLen * i.size + news.length)).toArray) := by
  have hf := run_firstCells_some (P := P) w i.size m a m c news hl hnews
  have hst := run_storeCells_at P g (off + sLen * i.size) e news 0 cur w hg (by simpa using hfit) h1
  simp only [Nat.add_zero] at hst
  simp [Builtin.append_, run_underlying ht, sizeOf, typeInfo, hi, Builtin.lenOf, hroom, hf, Addr.add_lit, hst]
/-- append onto such a row. -/
theorem run_app_off (t ty e : TypeId) (z : Value) (sz bt : Nat) (ht : P.underlying t = some (.slice e)) (hi : (P.info? e).map (fun i => (i.zero, i.size, i.bytes)) = some (some z, sz, bt)) (hzs : z.cells.size = sz) (hsz : 0 < sz) (hbt : 0 < bt)
    (B : Option Addr) (n d : Nat) (xs : List Value) (hown : OwnO w e sz B n d xs) (S : Nat → Prop) (A : Option Addr) (m c : Nat) (ys : List Value) (hr : Row w S sz A m c ys) (hm : 0 < m) (h1 : ∀ u ∈ ys, u.oneCell' = true)
    (hl : (n + m) * bt ≤ 140737488355328) :
    ∃ A' c' w', (Builtin.append_ #[t, t] ty #[.slice B n d, .slice A m c]).run P w = .ok (.slice A' (n + m) c') w' ∧ OwnO w' e sz A' (n + m) c' (xs ++ ys) ∧ w.grownBy w' (Value.slice B n d).ownBlock ∧
      ((Value.slice A' (n + m) c').ownBlock = (Value.slice B n d).ownBlock ∨ (Value.slice A' (n + m) c').ownBlock = some w.heap.size) := by
  obtain ⟨hlen, hown⟩ := hown
  rcases hown with ⟨rfl, rfl, _⟩ | ⟨g, off, cur, rfl, hg, hnc, hcm, hcs, htk⟩
  · cases B with
    | none =>
      obtain ⟨A', c', w', h2, h3, h4, h5⟩ := run_app (P := P) (w := w) 0 t ty e z sz bt ht hi hzs hsz hbt (.slice none 0 0) 0 xs ⟨hlen, .inl ⟨rfl, rfl⟩⟩ S A m c ys hr h1 hl (Nat.zero_le _)
      exact ⟨A', c', w', h2, OwnO.of h3, h4, h5⟩
    | some x =>
      obtain ⟨i, hi0, hz, hsz', hby⟩ := info_parts hi
      obtain ⟨b, q, rfl, _, _, hc⟩ := hr.at_ hm
      have hnews : ∀ j u, ys[j]? = some u → w.cell? ((⟨b, q, none⟩ : Addr).add j) = some u := by
        intro j u hj
        rw [Addr.add_lit, hc j (by rw [← hr.len]; exact (List.getElem?_eq_some_iff.1 hj).1), hj]
      have hmax : 0 + m ≤ maxLen := by
        have : 0 + m ≤ (0 + m) * bt := Nat.le_mul_of_pos_right _ hbt
        simp only [maxLen]
        omega
      have hyl := hr.len
      have hx0 : xs = [] := List.eq_nil_of_length_eq_zero (by omega)
      subst hx0
      have hrun := run_append_grow (P := P) w t ty e i z ht hi0 hz x 0 0 [] (by simp) (fun j u hj => by simp at hj) ⟨b, q, none⟩ m c ys (by rw [hsz']; exact hyl) hnews (by omega) (by simp only [maxLen] at hmax; omega) (growslice_fits (by omega) (by rw [hby]; exact hl))
      have hge := grownCap_ge w (0 + m) 0 e
      have hcm' : grownCap w (0 + m) 0 e ≤ maxLen := grownCap_le_maxLen w (0 + m) 0 e hmax
      refine ⟨_, _, _, hrun, ⟨by simp [hyl], .inr ⟨w.heap.size, 0, _, rfl, heap_alloc_new w.drew _, hge, hcm', ?_, ?_⟩⟩, ⟨rfl, rfl, rfl, by simp, fun k hk _ => Below.heap_alloc w.drew _ k hk⟩, .inr rfl⟩
      · simp only [Array.size_append, List.size_toArray, size_zeroCells, hzs, List.length_nil, hyl]
        rw [Nat.zero_add]
        have h5 : m * sz ≤ grownCap w (0 + m) 0 e * sz := Nat.mul_le_mul_right sz (by omega)
        rw [show 0 + m * sz + (grownCap w (0 + m) 0 e - (0 + m)) * sz = (m + (grownCap w (0 + m) 0 e - (0 + m))) * sz by rw [Nat.add_mul]; omega]
        congr 1
        omega
      · simp only [Array.toList_append, List.drop_zero, List.nil_append]
        rw [show (0 + m) * sz = ys.length by rw [hyl, Nat.zero_add]]
        exact List.take_left
  · obtain ⟨i, hi0, hz, hsz', hby⟩ := info_parts hi
    obtain ⟨b, q, rfl, _, _, hc⟩ := hr.at_ hm
    have hnews : ∀ j u, ys[j]? = some u → w.cell? ((⟨b, q, none⟩ : Addr).add j) = some u := by
      intro j u hj
      rw [Addr.add_lit, hc j (by rw [← hr.len]; exact (List.getElem?_eq_some_iff.1 hj).1), hj]
    have hmax : n + m ≤ maxLen := by
      have : n + m ≤ (n + m) * bt := Nat.le_mul_of_pos_right _ hbt
      simp only [maxLen]
      omega
    have hll : (xs ++ ys).length = (n + m) * sz := by rw [List.length_append, hlen, hr.len, Nat.add_mul]
    have hyl := hr.len
    have hnsz : n * sz ≤ d * sz := Nat.mul_le_mul_right sz hnc
    by_cases hroom : n + m ≤ d
    · have hnm : (n + m) * sz ≤ d * sz := Nat.mul_le_mul_right sz hroom
      rw [Nat.add_mul] at hnm
      have hfit : off + n * i.size + ys.length ≤ cur.size := by rw [hsz', hyl]; omega
      have hrun := run_append_room_off (P := P) (w := w) t ty e i ht hi0 g off n d cur hg ⟨b, q, none⟩ m c ys (by rw [hsz']; exact hyl) hnews h1 hroom hfit
      rw [hsz'] at hrun hfit
      have hcl : cur.toList.length = cur.size := by simp
      have htl : (cur.toList.take (off + n * sz)).length = off + n * sz := by rw [List.length_take]; omega
      have hx : (cur.toList.take (off + n * sz)).drop off = xs := by rw [← htk, List.drop_take, Nat.add_sub_cancel_left]
      refine ⟨_, _, _, hrun, ⟨hll, .inr ⟨g, off, _, rfl, setRow_heap w g cur _ e _ hg, hroom, hcm, ?_, ?_⟩⟩, ⟨rfl, rfl, rfl, by simp, fun k _ hk => setRow_other w g k _ (fun e => hk (by simp [Value.ownBlock, e]))⟩, .inl rfl⟩
      · simp only [List.size_toArray, List.length_append, htl, List.length_drop, hcl]
        omega
      · rw [List.append_assoc, List.drop_append_of_le_length (by rw [htl]; omega), hx, ← List.append_assoc, ← hll]
        exact List.take_left
    · have holds : ∀ j u, xs[j]? = some u → w.cell? ((⟨g, off, none⟩ : Addr).add j) = some u := by
        intro j u hj
        have hjl := (List.getElem?_eq_some_iff.1 hj).1
        rw [Addr.add_lit, Blk.cell hg (off + j)]
        rw [← htk, List.getElem?_take, if_pos (by omega), List.getElem?_drop, Array.getElem?_toList] at hj
        exact hj
      have hrun := run_append_grow (P := P) w t ty e i z ht hi0 hz ⟨g, off, none⟩ n d xs (by rw [hsz']; exact hlen) holds ⟨b, q, none⟩ m c ys (by rw [hsz']; exact hyl) hnews (by omega) (by simp only [maxLen] at hmax; omega) (growslice_fits (by omega) (by rw [hby]; exact hl))
      have hge := grownCap_ge w (n + m) d e
      have hcm' : grownCap w (n + m) d e ≤ maxLen := grownCap_le_maxLen w (n + m) d e hmax
      refine ⟨_, _, _, hrun, ⟨hll, .inr ⟨w.heap.size, 0, _, rfl, heap_alloc_new w.drew _, hge, hcm', ?_, ?_⟩⟩, ⟨rfl, rfl, rfl, by simp, fun k hk _ => Below.heap_alloc w.drew _ k hk⟩, .inr rfl⟩
      · simp only [Array.size_append, List.size_toArray, size_zeroCells, hzs, hlen, hyl, ← Nat.add_mul]
        rw [Nat.zero_add]
        congr 1
        omega
      · simp only [Array.toList_append, List.append_assoc, List.drop_zero]
        rw [← List.append_assoc, ← hll]
        exact List.take_left
theorem wpl_appo (hgd : o.guard = none) (s x : Operand) (t : TypeId) (ho : o.op = .call { callee := .builtin .append, args := #[s, x], argTypes := #[t, t] })
    (e : TypeId) (z : Value) (sz bt : Nat) (ht : P.underlying t = some (.slice e)) (hi : (P.info? e).map (fun i => (i.zero, i.size, i.bytes)) = some (some z, sz, bt)) (hzs : z.cells.size = sz) (hsz : 0 < sz) (hbt : 0 < bt)
    (B : Option Addr) (n d : Nat) (hs : a.eval s = .slice B n d) (xs : List Value) (hown : OwnO w e sz B n d xs) (S : Nat → Prop) (A : Option Addr) (m c : Nat) (hx : a.eval x = .slice A m c) (ys : List Value) (hr : Row w S sz A m c ys) (hm : 0 < m) (h1 : ∀ u ∈ ys, u.oneCell' = true)
    (hl : (n + m) * bt ≤ 140737488355328) (N : Nat) (hN : n + m = N)
    (h : ∀ A' c' w', OwnO w' e sz A' N c' (xs ++ ys) → w.grownBy w' (Value.slice B n d).ownBlock → ((Value.slice A' N c').ownBlock = (Value.slice B n d).ownBlock ∨ (Value.slice A' N c').ownBlock = some w.heap.size) → wpList P ops Q rest (a.put o.dst (.slice A' N c')) w') :
    wpList P ops Q (o :: rest) a w :=
  wpList_plain hgd fun K hK => by
    subst hN
    obtain ⟨A', c', w', hrun, h2, h3, h4⟩ := run_app_off (P := P) t o.type e z sz bt ht hi hzs hsz hbt B n d xs hown S A m c ys hr hm h1 hl
    unfold Oper.wp execOp
    simp only [ho, resolve, invoke, builtin, Sem.run_bind, Sem.run_pure, Result.andThen_ok, List.map_toArray, List.map_cons, List.map_nil, hs, hx, hrun]
    exact hK _ _ (h A' c' w' h2 h3 h4)
end
end Go.Pl

/-
  append onto the bytes of a string; copy into a row at an offset.
-/
import Derived.Test.YthoaenpbmmjokaaDoorObAcc
import Derived.Test.YthoaenpbmmjokaaDoorStr
namespace Go.Pl
open Go.RowKit
section
variable {P : Program}
theorem run_storeCells_atF (g o : Nat) (t : TypeId) (lo hi : Nat) : ∀ (vs : List Value) (i : Nat) (cur : Array Value) (w : World), w.heap[g]? = some (.cells cur t (lo, hi)) → o + i + vs.length ≤ cur.size → o + i + vs.length ≤ lo → (∀ v ∈ vs, v.oneCell' = true) →
    (storeCells ⟨g, o, none⟩ vs i).run P w = .ok () (w.setRow g (cur.toList.take (o + i) ++ vs ++ cur.toList.drop (o + i + vs.length)).toArray)
  | [], i, cur, w, hg, _, _, _ => by
    simp only [storeCells, List.append_nil, List.length_nil, Nat.add_zero, List.take_append_drop, Array.toArray_toList]
    rw [setRow_self w g cur t (lo, hi) hg]
    rfl
  | v :: rest, i, cur, w, hg, hl, hlo, h1 => by
    have hi' : o + i < cur.size := by simp at hl; omega
    have hadd : (⟨g, o, none⟩ : Addr).add i = ⟨g, o + i, none⟩ := by unfold Addr.add; split <;> simp_all
    have hcell : w.cell? ⟨g, o + i, none⟩ = some cur[o + i] := by simp [World.cell?, hg, hi']
    have hfro : w.frozen? ⟨g, o + i, none⟩ = false := by
      simp only [World.frozen?, hg]
      simp only [List.length_cons] at hlo
      simp only [Bool.and_eq_false_iff, decide_eq_false_iff_not]
      exact .inl (by omega)
    have hst : (store ((⟨g, o, none⟩ : Addr).add i) v).run P w = .ok () (w.setRow g (cur.setIfInBounds (o + i) v)) := by
      rw [hadd, run_store P w _ v _ (h1 v (by simp)), hcell]
      simp [hfro, setCell_eq_setRow w g (o + i) cur t (lo, hi) v hg]
    have ih := run_storeCells_atF g o t lo hi rest (i + 1) (cur.setIfInBounds (o + i) v) (w.setRow g (cur.setIfInBounds (o + i) v)) (setRow_heap w g cur _ t _ hg) (by simp at hl ⊢; omega) (by simp at hlo ⊢; omega) (fun x hx => h1 x (by simp [hx]))
    simp only [storeCells, Sem.run_bind, hst, Result.andThen_ok, ih, setRow_setRow]
    congr 3
    have e := list_seg_step cur.toList (o + i) v rest (by simp at hl ⊢; omega)
    simpa [Array.toList_setIfInBounds, Nat.add_assoc] using e
theorem run_append_roomF (w : World) (t ty e : TypeId) (i : TypeInfo) (ht : P.underlying t = some (.slice e)) (hi : P.info? e = some i)
    (g sLen sCap lo hh : Nat) (cur : Array Value) (hg : w.heap[g]? = some (.cells cur e (lo, hh)))
    (a : Addr) (m c : Nat) (news : List Value) (hl : news.length = m * i.size) (hnews : ∀ j u, news[j]? = some u → w.cell? (a.add j) = some u) (h1 : ∀ u ∈ news, u.oneCell' = true)
    (hroom : sLen + m ≤ sCap) (hfit : sLen * i.size + news.length ≤ cur.size) (hlo : sLen * i.size + news.length ≤ lo) :
    (Builtin.append_ #[t, t] ty #[.slice (some ⟨g, 0, none⟩) sLen sCap, .slice (some a) m c]).run P w =
      .ok (.slice (some ⟨g, 0, none⟩) (sLen + m) sCap) (w.setRow g (cur.toList.take (sLen * i.size) ++ news ++ cur.toList.drop (sLen * i.size + news.length)).toArray) := by
  have hf := run_firstCells_some (P := P) w i.size m a m c news hl hnews
  have hst := run_storeCells_atF (P := P) g (sLen * i.size) e lo hh news 0 cur w hg (by simpa using hfit) (by simpa using hlo) h1
  simp only [Nat.add_zero] at hst
  simp [Builtin.append_, run_underlying ht, sizeOf, typeInfo, hi, Builtin.lenOf, hroom, hf, Addr.add_lit, hst]
theorem run_append_dig (w : World) (t ty e : TypeId) (ht : P.underlying t = some (.slice e)) (hi : (P.info? e).map (fun i => (i.zero, i.size, i.bytes)) = some (some (.int .u8 0), 1, 1))
    (g c : Nat) (bs : List UInt8) (hd : Dig w g e c bs) (S2 : Nat → Prop) (A2 : Option Addr) (n2 c2 : Nat) (cs : List UInt8) (hr2 : Rd w S2 A2 n2 c2 cs) (hpos : 0 < n2) (hl : bs.length + n2 ≤ 140737488355328) :
    ∃ A c' w', (Builtin.append_ #[t, t] ty #[.slice (some ⟨g, 0, none⟩) bs.length c, .slice A2 n2 c2]).run P w = .ok (.slice A (bs.length + n2) c') w' ∧ Rd w' (fun i => i = g ∨ w.heap.size ≤ i) A (bs.length + n2) c' (bs ++ cs) ∧ w.grownBy w' (some g) := by
  obtain ⟨i, hi0, hz, hsz, hby⟩ := info_parts hi
  have hn2 := hr2.len
  have hglt := hd.lt
  have hdc := fun i (hi : i < bs.length) => hd.cell hi
  obtain ⟨cur, hg, hcs, hlc, hm, ht2⟩ := hd
  obtain ⟨b2, o2, hA2, _, hb2, hc2⟩ := hr2.at_ hpos
  subst hA2
  have cell : ∀ (b o : Nat) (xs : List UInt8), (∀ i, i < xs.length → w.cell? ⟨b, o + i, none⟩ = some (.int .u8 ((xs.getD i 0).toNat : Int))) → ∀ j u, (xs.map u8v)[j]? = some u → w.cell? ((⟨b, o, none⟩ : Addr).add j) = some u := by
    intro b o xs hx j u hu
    have hj : j < xs.length := by
      have := (List.getElem?_eq_some_iff.1 hu).1
      simpa using this
    rw [u8v_get xs j hj] at hu
    cases hu
    rw [add_none]
    exact hx j hj
  by_cases hroom : bs.length + n2 ≤ c
  · have hr := run_append_roomF (P := P) w t ty e i ht hi0 g bs.length c c (c + 1) cur hg ⟨b2, o2, none⟩ n2 c2 (cs.map u8v) (by simp [hsz, hn2]) (cell b2 o2 cs (fun i hi => hc2 i (by omega))) (u8v_one cs) hroom
      (by rw [hsz]; simp; omega) (by rw [hsz]; simp; omega)
    rw [hsz, Nat.mul_one] at hr
    refine ⟨_, _, _, hr, ?_, ⟨rfl, rfl, rfl, by simp, fun k _ hk => setRow_other w g k _ (fun e => hk (by rw [e]))⟩⟩
    have hg' := setRow_heap w g cur (cur.toList.take bs.length ++ cs.map u8v ++ cur.toList.drop (bs.length + (cs.map u8v).length)).toArray e _ hg
    refine ⟨by simp [hn2], hroom, hm, (fun e => by cases e), fun _ => ⟨g, 0, rfl, .inl rfl, by simpa using hglt, fun i hi => ?_⟩⟩
    rw [Nat.zero_add, cell_of_row _ g i _ e _ hg', ht2]
    have hcl : cs.length = n2 := hn2.symm
    simp only [List.getElem?_toArray]
    rw [List.append_assoc]
    by_cases hib : i < bs.length
    · rw [List.getElem?_append_left (by simpa using hib), u8v_get bs i hib, List.getD_eq_getElem?_getD, List.getD_eq_getElem?_getD, List.getElem?_append_left hib]
    · have hml : (bs.map u8v).length = bs.length := by simp
      rw [List.getElem?_append_right (by omega), hml, List.getElem?_append_left (by simp; omega), u8v_get cs _ (by omega), List.getD_eq_getElem?_getD, List.getD_eq_getElem?_getD, List.getElem?_append_right (by omega)]
  · have hmx : bs.length + n2 ≤ maxLen := by simp only [maxLen]; omega
    have hr := run_append_grow (P := P) w t ty e i (.int .u8 0) ht hi0 hz ⟨g, 0, none⟩ bs.length c (bs.map u8v) (by simp [hsz]) (cell g 0 bs (fun i hi => by rw [Nat.zero_add]; exact hdc i hi))
      ⟨b2, o2, none⟩ n2 c2 (cs.map u8v) (by simp [hsz, hn2]) (cell b2 o2 cs (fun i hi => hc2 i (by omega))) (by omega) (by omega) (growslice_fits (by omega) (by rw [hby]; omega))
    have hge := grownCap_ge w (bs.length + n2) c e
    have hcm := grownCap_le_maxLen w (bs.length + n2) c e hmx
    refine ⟨_, _, _, hr, ?_, ⟨rfl, rfl, rfl, by simp, fun k hk _ => Below.heap_alloc w.drew _ k hk⟩⟩
    have hown : (w.drew.alloc (.cells ((bs.map u8v).toArray ++ (cs.map u8v).toArray ++ Builtin.zeroCells (Value.int .u8 0).cells (grownCap w (bs.length + n2) c e - (bs.length + n2))) e)).ownsRow w.heap.size e 1
        (.slice (some ⟨w.heap.size, 0, none⟩) (bs.length + n2) (grownCap w (bs.length + n2) c e)) (bs.length + n2) ((bs ++ cs).map u8v) := by
      refine ⟨by simp [hn2], .inr ⟨w.heap.size, _, _, rfl, Nat.le_refl _, heap_alloc_new w.drew _, hge, hcm, ?_, ?_⟩⟩
      · have hz1 : (Value.int IntKind.u8 0).cells.size = 1 := rfl
        simp only [Array.size_append, List.size_toArray, size_zeroCells, hz1, List.length_map]
        omega
      · simp only [Array.toList_append, List.map_append]
        rw [List.take_append_of_le_length (by simp; omega), List.take_of_length_le (by simp; omega)]
    exact (own_rd hown).mono (fun i _ h => .inr (own_lt hown i h).1)
end
section
variable {P : Program} {ops : Array Oper} {rest : List Oper} {o : Oper} {a : Act} {Q : Exit → Act → World → Prop} {w : World}
/-- append([]byte(s), b...). -/
theorem wpl_append_dig (hgd : o.guard = none) (s x : Operand) (t : TypeId) (ho : o.op = .call { callee := .builtin .append, args := #[s, x], argTypes := #[t, t] })
    (e : TypeId) (ht : P.underlying t = some (.slice e)) (hi : (P.info? e).map (fun i => (i.zero, i.size, i.bytes)) = some (some (.int .u8 0), 1, 1))
    (g c : Nat) (bs : List UInt8) (hd : Dig w g e c bs) (hs : a.eval s = .slice (some ⟨g, 0, none⟩) bs.length c) (S2 : Nat → Prop) (A2 : Option Addr) (n2 c2 : Nat) (cs : List UInt8) (hr2 : Rd w S2 A2 n2 c2 cs) (hx : a.eval x = .slice A2 n2 c2) (hpos : 0 < n2) (hl : bs.length + n2 ≤ 140737488355328)
    (N : Nat) (hN : bs.length + n2 = N)
    (h : ∀ A c' w', Rd w' (fun i => i = g ∨ w.heap.size ≤ i) A N c' (bs ++ cs) → w.grownBy w' (some g) → wpList P ops Q rest (a.put o.dst (.slice A N c')) w') : wpList P ops Q (o :: rest) a w :=
  wpList_plain hgd fun K hK => by
    obtain ⟨A, c', w', hrun, h1, h2⟩ := run_append_dig (P := P) w t o.type e ht hi g c bs hd S2 A2 n2 c2 cs hr2 hpos hl
    subst hN
    unfold Oper.wp execOp
    simp only [ho, resolve, invoke, builtin, Sem.run_bind, Sem.run_pure, Result.andThen_ok, List.map_toArray, List.map_cons, List.map_nil, hs, hx, hrun]
    exact hK _ _ (h A c' w' h1 h2)
/-- copy(d[f:], s) into a block that is known whole, s no longer than what is left. -/
theorem wpl_copy_at (hgd : o.guard = none) (x y : Operand) (t u : TypeId) (ho : o.op = .call { callee := .builtin .copy, args := #[x, y], argTypes := #[t, u] })
    (e : TypeId) (ht : P.underlying t = some (.slice e)) (hi : (P.info? e).map (·.size) = some 1)
    (g f N c : Nat) (hx : a.eval x = .slice (some ⟨g, f, none⟩) N c) (ty : TypeId) (cur : Array Value) (hg : Blk w g ty cur) (S : Nat → Prop) (A : Option Addr) (n c' : Nat) (bs : List UInt8) (hr : Rd w S A n c' bs) (hy : a.eval y = .slice A n c')
    (hpos : 0 < n) (hN : n ≤ N) (hc : f + n ≤ cur.size)
    (h : ∀ w', Blk w' g ty (cur.toList.take f ++ bs.map u8v ++ cur.toList.drop (f + n)).toArray → w.grownBy w' (some g) → wpList P ops Q rest (a.put o.dst (goInt n)) w') : wpList P ops Q (o :: rest) a w :=
  wpList_plain hgd fun K hK => by
    have hn := hr.len
    obtain ⟨b, o', hA, _, _, hcell⟩ := hr.at_ hpos
    have hr' := run_copy_row (P := P) w t u o.type e g f N c ⟨b, o', none⟩ n c' cur ty (bs.map u8v) ht hi hg (by rw [List.length_map, ← hn]; exact (Nat.min_eq_left hN).symm)
      (fun j v hj => by
        have hjl : j < bs.length := by
          have := (List.getElem?_eq_some_iff.1 hj).1
          simpa using this
        rw [u8v_get bs j hjl] at hj
        cases hj
        rw [add_none]
        exact hcell j (by omega)) (by simp [← hn]; omega) (u8v_one bs)
    have el : (bs.map u8v).length = n := by simp [hn]
    rw [el] at hr'
    subst hA
    unfold Oper.wp execOp
    simp only [ho, resolve, invoke, builtin, Sem.run_bind, Sem.run_pure, Result.andThen_ok, List.map_toArray, List.map_cons, List.map_nil, hx, hy, hr']
    exact hK _ _ (h _ (hg.setRow _) ⟨rfl, rfl, rfl, by simp, fun k _ hk => setRow_other w g k _ (fun e => hk (by rw [e]))⟩)
end
end Go.Pl

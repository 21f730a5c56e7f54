/-
  Strings that become rows: '[]byte(s)', append of a string; over whatever program.
-/
import Derived.Test.YtajohibeoicepaaDoorPart
import Derived.Lib.AppendStr
import Derived.Laws.IdiomStrings
import Derived.Laws.IdiomCopy
import Derived.Laws.CopyRow
namespace Go.Pl
open Go.RowKit
/-- What '[]byte(s)' lays: a row that reads as the bytes; the mark lies behind its last cell. -/
def Dig (w : World) (g : Nat) (e : TypeId) (c : Nat) (bs : List UInt8) : Prop :=
  ∃ cur, w.heap[g]? = some (.cells cur e (c, c + 1)) ∧ cur.size = c ∧ bs.length ≤ c ∧ c ≤ maxLen ∧ cur.toList.take bs.length = bs.map u8v
theorem strCells_mk (bs : List UInt8) : Lib.strCells ⟨bs.toArray⟩ = bs.map u8v := by
  simp only [Lib.strCells]
  rfl
section
variable {w w' : World} {g c : Nat} {e : TypeId} {bs : List UInt8}
theorem Dig.lt (h : Dig w g e c bs) : g < w.heap.size := by
  obtain ⟨cur, hg, _⟩ := h
  exact (Array.getElem?_eq_some_iff.1 hg).1
theorem Dig.fr {F : Nat → Prop} (h : Dig w g e c bs) (hf : Fr F w w') (hn : ¬ F g) : Dig w' g e c bs := by
  have hl := h.lt
  obtain ⟨cur, hg, hr⟩ := h
  exact ⟨cur, (hf.block g hl hn).trans hg, hr⟩
theorem Dig.up (h : Dig w g e c bs) (hb : Below w.heap.size w w') : Dig w' g e c bs := h.fr (Fr.of_below (F := fun _ => False) hb) (fun h => h)
theorem Dig.cell (h : Dig w g e c bs) {i : Nat} (hi : i < bs.length) : w.cell? ⟨g, i, none⟩ = some (.int .u8 ((bs.getD i 0).toNat : Int)) := by
  obtain ⟨cur, hg, hc, hl, hm, ht⟩ := h
  rw [cell_of_row w g i cur e _ hg, ← u8v_get bs i hi, ← ht, List.getElem?_take, if_pos hi, Array.getElem?_toList]
theorem Dig.rd (h : Dig w g e c bs) : Rd w (fun i => i = g) (some ⟨g, 0, none⟩) bs.length c bs := by
  have hl := h.lt
  have hc := fun i (hi : i < bs.length) => h.cell hi
  obtain ⟨cur, hg, hcs, hlc, hm, ht⟩ := h
  exact ⟨rfl, hlc, hm, (fun e => by cases e), fun _ => ⟨g, 0, rfl, rfl, hl, fun i hi => by rw [Nat.zero_add]; exact hc i hi⟩⟩
end
section
variable {P : Program} {ops : Array Oper} {rest : List Oper} {o : Oper} {a : Act} {Q : Exit → Act → World → Prop} {w : World}
/-- '[]byte(s)'. -/
theorem wpl_bytes_str (hgd : o.guard = none) (src dst e : TypeId) (x : Operand) (ho : o.op = .convert src dst x)
    (hs : P.underlying src = some .string) (hd : P.underlying dst = some (.slice e)) (he : P.underlying e = some (.int .u8)) (bs : List UInt8) (hx : a.eval x = .string ⟨bs.toArray⟩) (hl : bs.length ≤ maxLen)
    (h : ∀ c w', Dig w' w.heap.size e c bs → w.grownBy w' none → wpList P ops Q rest (a.put o.dst (.slice (some ⟨w.heap.size, 0, none⟩) bs.length c)) w') : wpList P ops Q (o :: rest) a w :=
  wpList_plain hgd fun K hK => by
    have hr := run_bytes_of_string (P := P) w src dst e ⟨bs.toArray⟩ hs hd he
    have hsz : (ByteArray.mk bs.toArray).size = bs.length := by simp [ByteArray.size]
    rw [hsz] at hr
    have hge := grownCap_ge w bs.length 0 e
    have hmx := grownCap_le_maxLen w bs.length 0 e hl
    unfold Oper.wp execOp
    simp only [ho, hx, Sem.run_bind, hr, Result.andThen_ok, Sem.run_pure]
    have hcs : (bytesRow ⟨bs.toArray⟩ (grownCap w bs.length 0 e)).size = grownCap w bs.length 0 e := by
      simp [bytesRow, hsz]; omega
    refine hK _ _ (h _ _ ⟨bytesRow ⟨bs.toArray⟩ (grownCap w bs.length 0 e), ?_, hcs, hge, hmx, ?_⟩ ⟨rfl, rfl, rfl, by simp, fun k hk _ => Below.heap_alloc w.drew _ k hk⟩)
    · rw [hcs]; exact heap_alloc_new w.drew _
    · simp [bytesRow, u8v]
/-- append(b, s...). -/
theorem wpl_append_str (hgd : o.guard = none) (s x : Operand) (t u : TypeId) (ho : o.op = .call { callee := .builtin .append, args := #[s, x], argTypes := #[t, u] })
    (base : Nat) (e : TypeId) (ht : P.underlying t = some (.slice e)) (hu : P.underlying u = some .string) (hi : (P.info? e).map (fun i => (i.zero, i.size, i.bytes)) = some (some (.int .u8 0), 1, 1))
    (v : Value) (hs : a.eval s = v) (bs : List UInt8) (hown : w.ownsRow base e 1 v bs.length (bs.map u8v)) (cs : List UInt8) (hx : a.eval x = .string ⟨cs.toArray⟩)
    (hl : bs.length + cs.length ≤ 140737488355328) (hbase : base ≤ w.heap.size)
    (n : Nat) (hn : (bs ++ cs).length = n)
    (h : ∀ A c w', w'.ownsRow base e 1 (.slice A n c) n ((bs ++ cs).map u8v) → w.grownBy w' v.ownBlock → wpList P ops Q rest (a.put o.dst (.slice A n c)) w') : wpList P ops Q (o :: rest) a w :=
  wpList_plain hgd fun K hK => by
    obtain ⟨i, hi0, hz, hsz, hby⟩ := info_parts hi
    have hss : (ByteArray.mk cs.toArray).size = cs.length := by simp [ByteArray.size]
    obtain ⟨v', w', hrun, h1, h2, _⟩ := Lib.run_append_own_string (P := P) (w := w) base t u o.type e i ht hu hi0 hz hsz hby v bs.length (bs.map u8v) hown ⟨cs.toArray⟩ (by rw [hss]; simp only [maxLen]; omega) (by rw [hss]; omega) hbase
    rw [hss, strCells_mk, ← List.map_append, ← List.length_append] at h1
    subst hn
    obtain ⟨A, c, rfl, _, _⟩ := own_slice h1
    unfold Oper.wp execOp
    simp only [ho, resolve, invoke, builtin, Sem.run_bind, Sem.run_pure, Result.andThen_ok, List.map_toArray, List.map_cons, List.map_nil, hs, hx, hrun]
    exact hK _ _ (h A c w' h1 h2)
/-- copy(d, s) into a block that is known whole, s no longer than d. -/
theorem wpl_copy_rd (hgd : o.guard = none) (x y : Operand) (t u : TypeId) (ho : o.op = .call { callee := .builtin .copy, args := #[x, y], argTypes := #[t, u] })
    (e : TypeId) (ht : P.underlying t = some (.slice e)) (hi : (P.info? e).map (·.size) = some 1)
    (g N c : Nat) (hx : a.eval x = .slice (some ⟨g, 0, none⟩) N c) (ty : TypeId) (cur : Array Value) (hg : Blk w g ty cur) (S : Nat → Prop) (A : Option Addr) (n c' : Nat) (bs : List UInt8) (hr : Rd w S A n c' bs) (hy : a.eval y = .slice A n c')
    (hN : n ≤ N) (hc : n ≤ cur.size)
    (h : ∀ w', Blk w' g ty (bs.map u8v ++ cur.toList.drop n).toArray → w.grownBy w' (some g) → wpList P ops Q rest (a.put o.dst (goInt n)) w') : wpList P ops Q (o :: rest) a w :=
  wpList_plain hgd fun K hK => by
    have hn := hr.len
    have key : ∃ w', (Builtin.copy_ #[t, u] o.type #[.slice (some ⟨g, 0, none⟩) N c, .slice A n c']).run P w = .ok (goInt n) w' ∧ Blk w' g ty (bs.map u8v ++ cur.toList.drop n).toArray ∧ w.grownBy w' (some g) := by
      by_cases h0 : n = 0
      · subst h0
        have hb : bs = [] := List.eq_nil_of_length_eq_zero hn.symm
        subst hb
        exact ⟨w, run_copy_none (P := P) w t u o.type e (some ⟨g, 0, none⟩) A N c 0 c' ht hi (Nat.zero_min _), by simpa using hg, ⟨rfl, rfl, rfl, Nat.le_refl _, fun _ _ _ => rfl⟩⟩
      · obtain ⟨b, o', hA, _, _, hcell⟩ := hr.at_ (by omega)
        have hr' := run_copy_row (P := P) w t u o.type e g 0 N c ⟨b, o', none⟩ n c' cur ty (bs.map u8v) ht hi hg (by rw [List.length_map, ← hn]; exact (Nat.min_eq_left hN).symm)
          (fun j v hj => by
            have hjl : j < bs.length := by
              have := (List.getElem?_eq_some_iff.1 hj).1
              simpa using this
            rw [u8v_get bs j hjl] at hj
            cases hj
            rw [add_none]
            exact hcell j (by omega)) (by simp [← hn]; omega) (u8v_one bs)
        rw [hA]
        refine ⟨_, ?_, hg.setRow _, ⟨rfl, rfl, rfl, by simp, fun k _ hk => setRow_other w g k _ (fun e => hk (by rw [e]))⟩⟩
        have el : (bs.map u8v).length = n := by simp [hn]
        rw [el] at hr'
        simpa using hr'
    obtain ⟨w', hrun, h1, h2⟩ := key
    unfold Oper.wp execOp
    simp only [ho, resolve, invoke, builtin, Sem.run_bind, Sem.run_pure, Result.andThen_ok, List.map_toArray, List.map_cons, List.map_nil, hx, hy, hrun]
    exact hK _ _ (h w' h1 h2)
theorem run_append_full (w : World) (t ty e : TypeId) (ht : P.underlying t = some (.slice e)) (hi : (P.info? e).map (fun i => (i.zero, i.size, i.bytes)) = some (some (.int .u8 0), 1, 1))
    (S1 S2 : Nat → Prop) (A1 A2 : Option Addr) (n1 n2 c2 : Nat) (bs cs : List UInt8) (hr1 : Rd w S1 A1 n1 n1 bs) (hr2 : Rd w S2 A2 n2 c2 cs) (hpos : 0 < n1) (hl : n1 + n2 ≤ 140737488355328) :
    ∃ A c w', (Builtin.append_ #[t, t] ty #[.slice A1 n1 n1, .slice A2 n2 c2]).run P w = .ok (.slice A (n1 + n2) c) w' ∧ Rd w' (fun _ => True) A (n1 + n2) c (bs ++ cs) ∧ w.grownBy w' none := by
  obtain ⟨i, hi0, hz, hsz, hby⟩ := info_parts hi
  have hn1 := hr1.len
  have hn2 := hr2.len
  obtain ⟨b1, o1, hA1, _, hb1, hc1⟩ := hr1.at_ hpos
  by_cases h0 : n2 = 0
  · subst h0
    have hcs : cs = [] := List.eq_nil_of_length_eq_zero hn2.symm
    subst hcs
    refine ⟨A1, n1, w, ?_, by simpa using hr1.mono (T := fun _ => True) (fun _ _ _ => trivial), ⟨rfl, rfl, rfl, Nat.le_refl _, fun _ _ _ => rfl⟩⟩
    subst hA1
    rcases A2 with _ | a
    · have hc0 : c2 = 0 := hr2.none rfl
      simp [Builtin.append_, run_underlying ht, sizeOf, typeInfo, hi0, Builtin.lenOf, Builtin.firstCells, storeCells]
    · have hf : (loadCells a 0).run P w = .ok #[] w := by simpa using run_loadCells_list (P := P) w a [] (by simp)
      simp [Builtin.append_, run_underlying ht, sizeOf, typeInfo, hi0, Builtin.lenOf, Builtin.firstCells, storeCells, hf]
  · obtain ⟨b2, o2, hA2, _, hb2, hc2⟩ := hr2.at_ (by omega)
    subst hA1
    subst hA2
    have cell : ∀ (b o : Nat) (xs : List UInt8), (∀ i, i < xs.length → w.cell? ⟨b, o + i, none⟩ = some (.int .u8 ((xs.getD i 0).toNat : Int))) → ∀ j u, (xs.map u8v)[j]? = some u → w.cell? ((⟨b, o, none⟩ : Addr).add j) = some u := by
      intro b o xs hx j u hu
      have hj : j < xs.length := by
        have := (List.getElem?_eq_some_iff.1 hu).1
        simpa using this
      rw [u8v_get xs j hj] at hu
      cases hu
      rw [add_none]
      exact hx j hj
    have hm : n1 + n2 ≤ maxLen := by simp only [maxLen]; omega
    have hr := run_append_grow (P := P) w t ty e i (.int .u8 0) ht hi0 hz ⟨b1, o1, none⟩ n1 n1 (bs.map u8v) (by simp [hsz, hn1]) (cell b1 o1 bs (fun i hi => hc1 i (by omega)))
      ⟨b2, o2, none⟩ n2 c2 (cs.map u8v) (by simp [hsz, hn2]) (cell b2 o2 cs (fun i hi => hc2 i (by omega))) (by omega) (by omega) (growslice_fits (by omega) (by rw [hby]; omega))
    have hge := grownCap_ge w (n1 + n2) n1 e
    have hcm := grownCap_le_maxLen w (n1 + n2) n1 e hm
    refine ⟨_, _, _, hr, ?_, ⟨rfl, rfl, rfl, by simp, fun k hk _ => Below.heap_alloc w.drew _ k hk⟩⟩
    have hown : (w.drew.alloc (.cells ((bs.map u8v).toArray ++ (cs.map u8v).toArray ++ Builtin.zeroCells (Value.int .u8 0).cells (grownCap w (n1 + n2) n1 e - (n1 + n2))) e)).ownsRow w.heap.size e 1
        (.slice (some ⟨w.heap.size, 0, none⟩) (n1 + n2) (grownCap w (n1 + n2) n1 e)) (n1 + n2) ((bs ++ cs).map u8v) := by
      refine ⟨by simp [hn1, hn2], .inr ⟨w.heap.size, _, _, rfl, Nat.le_refl _, heap_alloc_new w.drew _, hge, hcm, ?_, ?_⟩⟩
      · have hz1 : (Value.int IntKind.u8 0).cells.size = 1 := rfl
        simp only [Array.size_append, List.size_toArray, size_zeroCells, hz1, List.length_map]
        omega
      · simp only [Array.toList_append, List.map_append]
        rw [List.take_append_of_le_length (by simp; omega), List.take_of_length_le (by simp; omega)]
    exact (own_rd hown).mono (fun _ _ _ => trivial)
/-- append onto a slice that has no room left. -/
theorem wpl_append_full (hgd : o.guard = none) (s x : Operand) (t : TypeId) (ho : o.op = .call { callee := .builtin .append, args := #[s, x], argTypes := #[t, t] })
    (e : TypeId) (ht : P.underlying t = some (.slice e)) (hi : (P.info? e).map (fun i => (i.zero, i.size, i.bytes)) = some (some (.int .u8 0), 1, 1))
    (S1 S2 : Nat → Prop) (A1 A2 : Option Addr) (n1 n2 c2 : Nat) (bs cs : List UInt8) (hr1 : Rd w S1 A1 n1 n1 bs) (hs : a.eval s = .slice A1 n1 n1) (hr2 : Rd w S2 A2 n2 c2 cs) (hx : a.eval x = .slice A2 n2 c2) (hpos : 0 < n1) (hl : n1 + n2 ≤ 140737488355328)
    (N : Nat) (hN : n1 + n2 = N)
    (h : ∀ A c w', Rd w' (fun _ => True) A N c (bs ++ cs) → w.grownBy w' none → wpList P ops Q rest (a.put o.dst (.slice A N c)) w') : wpList P ops Q (o :: rest) a w :=
  wpList_plain hgd fun K hK => by
    obtain ⟨A, c, w', hrun, h1, h2⟩ := run_append_full (P := P) w t o.type e ht hi S1 S2 A1 A2 n1 n2 c2 bs cs hr1 hr2 hpos hl
    subst hN
    unfold Oper.wp execOp
    simp only [ho, resolve, invoke, builtin, Sem.run_bind, Sem.run_pure, Result.andThen_ok, List.map_toArray, List.map_cons, List.map_nil, hs, hx, hrun]
    exact hK _ _ (h A c w' h1 h2)
end
end Go.Pl

/-
  Rows of the call's own, over whatever program: read, stored into, appended to, made. A slice that reads as a list of values.
-/
import Derived.Test.YtajohibeoicepaaDoorLaw
import Derived.Laws.MakeOwn
import Derived.Laws.OwnMore
import Derived.Laws.IdiomCopy
import Derived.BigQuiet
import Derived.Lib.Hide
namespace Go.Pl
open Go.RowKit
/-- The slice of address A, length n and capacity c reads as the values vs (sz cells an element), in a block of which S holds. -/
structure Row (w : World) (S : Nat → Prop) (sz : Nat) (A : Option Addr) (n c : Nat) (vs : List Value) : Prop where
  len : vs.length = n * sz
  le : n ≤ c
  max : c ≤ maxLen
  none : A = none → c = 0
  at_ : 0 < n → ∃ b o, A = some ⟨b, o, Option.none⟩ ∧ S b ∧ b < w.heap.size ∧ ∀ i, i < n * sz → w.cell? ⟨b, o + i, Option.none⟩ = vs[i]?
section
variable {w w' : World} {S T : Nat → Prop} {sz : Nat} {A : Option Addr} {n c : Nat} {vs : List Value}
theorem Row.keep (h : Row w S sz A n c vs) (hs : w.heap.size ≤ w'.heap.size) (hk : ∀ p : Addr, p.block < w.heap.size → S p.block → w'.cell? p = w.cell? p) : Row w' S sz A n c vs := by
  refine ⟨h.len, h.le, h.max, h.none, fun hn => ?_⟩
  obtain ⟨b, o, hA, hS, hb, hc⟩ := h.at_ hn
  exact ⟨b, o, hA, hS, by omega, fun i hi => (hk ⟨b, o + i, Option.none⟩ hb hS).trans (hc i hi)⟩
theorem Row.fr {F : Nat → Prop} (h : Row w S sz A n c vs) (hf : Fr F w w') (hF : ∀ i, S i → ¬ F i) : Row w' S sz A n c vs := h.keep hf.size fun _ hb hS => hf.cell hb (hF _ hS)
theorem Row.up (h : Row w S sz A n c vs) (hb : Below w.heap.size w w') : Row w' S sz A n c vs := h.keep hb.size fun _ hq _ => hb.cell hq
theorem Row.mono (h : Row w S sz A n c vs) (hST : ∀ i, i < w.heap.size → S i → T i) : Row w T sz A n c vs := by
  refine ⟨h.len, h.le, h.max, h.none, fun hn => ?_⟩
  obtain ⟨b, o, hA, hS, hb, hc⟩ := h.at_ hn
  exact ⟨b, o, hA, hST b hb hS, hb, hc⟩
theorem Row.new (w : World) (e : TypeId) (cs : Array Value) (vs : List Value) (hcs : cs.toList = vs) (hl : vs.length = n * sz) (hm : n ≤ maxLen) :
    Row (w.alloc (.cells cs e)) (fun i => i = w.heap.size) sz (some ⟨w.heap.size, 0, Option.none⟩) n n vs := by
  refine ⟨hl, Nat.le_refl _, hm, (fun e => by cases e), fun _ => ⟨w.heap.size, 0, rfl, rfl, by simp, fun i _ => ?_⟩⟩
  rw [cell_of_row _ w.heap.size (0 + i) _ e (0, 0) (heap_alloc_new w _), Nat.zero_add, ← hcs, Array.getElem?_toList]
theorem Row.nil (w : World) (S : Nat → Prop) (sz : Nat) : Row w S sz Option.none 0 0 [] := ⟨by simp, Nat.le_refl _, by simp [maxLen], fun _ => rfl, fun h => by omega⟩
/-- A row of the call's own. -/
theorem own_row {base : Nat} {e : TypeId} (h : w.ownsRow base e sz (.slice A n c) n vs) : Row w (fun i => (Value.slice A n c).ownBlock = some i) sz A n c vs := by
  obtain ⟨hl, h⟩ := h
  rcases h with ⟨he, h0⟩ | ⟨g, cap, cur, he, hb, hg, hnc, hcm, hcs, ht⟩
  · cases he
    exact ⟨hl, Nat.le_refl _, by simp [maxLen], fun _ => rfl, fun h => by omega⟩
  · cases he
    refine ⟨hl, hnc, hcm, (fun e => by cases e), fun _ => ⟨g, 0, rfl, rfl, (Array.getElem?_eq_some_iff.1 hg).1, fun i hi => ?_⟩⟩
    rw [cell_of_row _ g (0 + i) _ e (0, 0) hg, Nat.zero_add, ← ht, List.getElem?_take, if_pos hi, Array.getElem?_toList]
/-- The block of a row of the call's own (elements of one cell). -/
theorem own_at {base : Nat} {e : TypeId} (h : w.ownsRow base e 1 (.slice A n c) n vs) (hn : 0 < n) :
    ∃ g, A = some ⟨g, 0, Option.none⟩ ∧ base ≤ g ∧ g < w.heap.size ∧ (∀ i, i < n → w.cell? ⟨g, i, Option.none⟩ = vs[i]?) ∧ (∀ i, w.frozen? ⟨g, i, Option.none⟩ = false) ∧
      ∀ k v, k < n → (w.setCell ⟨g, k, Option.none⟩ v).ownsRow base e 1 (.slice A n c) n (vs.set k v) := by
  obtain ⟨hl, h⟩ := h
  rcases h with ⟨he, h0⟩ | ⟨g, cap, cur, he, hb, hg, hnc, hcm, hcs, ht⟩
  · omega
  · cases he
    have hgb : Blk w g e cur := hg
    refine ⟨g, rfl, hb, hgb.lt, fun i hi => ?_, fun i => hgb.frozen i, fun k v hk => ?_⟩
    · rw [hgb.cell i, ← ht, List.getElem?_take, if_pos (by omega), Array.getElem?_toList]
    · refine ⟨by simpa using hl, .inr ⟨g, c, cur.setIfInBounds k v, rfl, hb, hgb.set_ k v, hnc, hcm, by simpa using hcs, ?_⟩⟩
      rw [Array.toList_setIfInBounds, List.take_set, ht]
/-- The same, the block known. -/
theorem own_g {base g : Nat} {e : TypeId} (h : w.ownsRow base e 1 (.slice (some ⟨g, 0, Option.none⟩) n c) n vs) :
    base ≤ g ∧ g < w.heap.size ∧ (∀ i, i < n → w.cell? ⟨g, i, Option.none⟩ = vs[i]?) ∧ (∀ i, w.frozen? ⟨g, i, Option.none⟩ = false) ∧
      ∀ k v, k < n → (w.setCell ⟨g, k, Option.none⟩ v).ownsRow base e 1 (.slice (some ⟨g, 0, Option.none⟩) n c) n (vs.set k v) := by
  obtain ⟨hl, h⟩ := h
  rcases h with ⟨he, h0⟩ | ⟨g', cap, cur, he, hb, hg, hnc, hcm, hcs, ht⟩
  · cases he
  · cases he
    have hgb : Blk w g e cur := hg
    refine ⟨hb, hgb.lt, fun i hi => ?_, fun i => hgb.frozen i, fun k v hk => ?_⟩
    · rw [hgb.cell i, ← ht, List.getElem?_take, if_pos (by omega), Array.getElem?_toList]
    · refine ⟨by simpa using hl, .inr ⟨g, c, cur.setIfInBounds k v, rfl, hb, hgb.set_ k v, hnc, hcm, by simpa using hcs, ?_⟩⟩
      rw [Array.toList_setIfInBounds, List.take_set, ht]
theorem own_len {base : Nat} {e : TypeId} (h : w.ownsRow base e 1 (.slice A n c) n vs) : vs.length = n := by have := h.1; omega
end
section
variable {P : Program} {ops : Array Oper} {rest : List Oper} {o : Oper} {a : Act} {Q : Exit → Act → World → Prop} {w : World}
/-- append onto a row of the call's own, from whatever slice. -/
theorem run_app (base : Nat) (t ty e : TypeId) (z : Value) (sz bt : Nat) (ht : P.underlying t = some (.slice e)) (hi : (P.info? e).map (fun i => (i.zero, i.size, i.bytes)) = some (some z, sz, bt)) (hzs : z.cells.size = sz) (hsz : 0 < sz) (hbt : 0 < bt)
    (v : Value) (n : Nat) (xs : List Value) (hown : w.ownsRow base e sz v n xs) (S : Nat → Prop) (A : Option Addr) (m c : Nat) (ys : List Value) (hr : Row w S sz A m c ys) (h1 : ∀ u ∈ ys, u.oneCell' = true)
    (hl : (n + m) * bt ≤ 140737488355328) (hb : base ≤ w.heap.size) :
    ∃ A' c' w', (Builtin.append_ #[t, t] ty #[v, .slice A m c]).run P w = .ok (.slice A' (n + m) c') w' ∧ w'.ownsRow base e sz (.slice A' (n + m) c') (n + m) (xs ++ ys) ∧ w.grownBy w' v.ownBlock ∧
      ((Value.slice A' (n + m) c').ownBlock = v.ownBlock ∨ (Value.slice A' (n + m) c').ownBlock = some w.heap.size) := by
  obtain ⟨i, hi0, hz, hsz', hby⟩ := info_parts hi
  have shape : ∀ {w1 : World} {v1 : Value} {k : Nat} {zs : List Value}, w1.ownsRow base e sz v1 k zs → ∃ A1 c1, v1 = .slice A1 k c1 := by
    intro w1 v1 k zs h
    rcases h.2 with ⟨rfl, rfl⟩ | ⟨g, cap, cur, rfl, _⟩
    · exact ⟨none, 0, rfl⟩
    · exact ⟨_, _, rfl⟩
  rcases A with _ | ad
  · have hc := hr.none rfl
    have hle := hr.le
    obtain rfl : c = 0 := hc
    obtain rfl : m = 0 := by omega
    obtain rfl : ys = [] := List.eq_nil_of_length_eq_zero (by rw [hr.len]; omega)
    obtain ⟨A1, c1, rfl⟩ := shape hown
    exact ⟨A1, c1, w, run_append_owned_none (P := P) (w := w) base t ty e i sz ht hi0 _ n xs hown, by simpa using hown, World.grownBy.refl w _, .inl rfl⟩
  · have hnews : ∀ j u, ys[j]? = some u → w.cell? (ad.add j) = some u := by
      intro j u hj
      have hjl : j < ys.length := (List.getElem?_eq_some_iff.1 hj).1
      have hm : 0 < m := by
        rcases Nat.eq_zero_or_pos m with h0 | h0
        · rw [hr.len, h0, Nat.zero_mul] at hjl; omega
        · exact h0
      obtain ⟨b, o, hA, _, _, hc⟩ := hr.at_ hm
      cases hA
      rw [add_none, hc j (by rw [← hr.len]; exact hjl), hj]
    have hmax : n + m ≤ maxLen := by
      have : n + m ≤ (n + m) * bt := Nat.le_mul_of_pos_right _ hbt
      simp only [maxLen]
      omega
    obtain ⟨v', w', hrun, h5, h6, _, h7⟩ := run_append_own_at (P := P) w base t ty e i z sz bt ht hi0 hz hsz' hby hzs hsz v n xs hown ad m c ys hr.len hnews h1 hmax hl hb
    obtain ⟨A1, c1, rfl⟩ := shape h5
    exact ⟨A1, c1, w', hrun, h5, h6, h7⟩
theorem wpl_app (hgd : o.guard = none) (s x : Operand) (t : TypeId) (ho : o.op = .call { callee := .builtin .append, args := #[s, x], argTypes := #[t, t] })
    (base : Nat) (e : TypeId) (z : Value) (sz bt : Nat) (ht : P.underlying t = some (.slice e)) (hi : (P.info? e).map (fun i => (i.zero, i.size, i.bytes)) = some (some z, sz, bt)) (hzs : z.cells.size = sz) (hsz : 0 < sz) (hbt : 0 < bt)
    (v : Value) (hs : a.eval s = v) (n : Nat) (xs : List Value) (hown : w.ownsRow base e sz v n xs) (S : Nat → Prop) (A : Option Addr) (m c : Nat) (hx : a.eval x = .slice A m c) (ys : List Value) (hr : Row w S sz A m c ys) (h1 : ∀ u ∈ ys, u.oneCell' = true)
    (hl : (n + m) * bt ≤ 140737488355328) (hb : base ≤ w.heap.size) (N : Nat) (hN : n + m = N)
    (h : ∀ A' c' w', w'.ownsRow base e sz (.slice A' N c') N (xs ++ ys) → w.grownBy w' v.ownBlock → ((Value.slice A' N c').ownBlock = v.ownBlock ∨ (Value.slice A' N c').ownBlock = some w.heap.size) → wpList P ops Q rest (a.put o.dst (.slice A' N c')) w') :
    wpList P ops Q (o :: rest) a w :=
  wpList_plain hgd fun K hK => by
    subst hN
    obtain ⟨A', c', w', hrun, h2, h3, h4⟩ := run_app (P := P) base t o.type e z sz bt ht hi hzs hsz hbt v n xs hown S A m c ys hr h1 hl hb
    unfold Oper.wp execOp
    simp only [ho, resolve, invoke, builtin, Sem.run_bind, Sem.run_pure, Result.andThen_ok, List.map_toArray, List.map_cons, List.map_nil, hs, hx, hrun]
    exact hK _ _ (h A' c' w' h2 h3 h4)
theorem made_one (z : Value) (hz : z.cells = #[z]) (n : Nat) : (madeCells z.cells (n * 1)).toList = List.replicate n z := by
  rw [hz, Nat.mul_one]
  apply List.ext_getElem
  · simp [madeCells]
  · intro i h1 h2
    simp [madeCells, Nat.mod_one]
/-- make([]T, 0, c). -/
theorem wpl_make0 (hgd : o.guard = none) (t : TypeId) (x y : Operand) (ho : o.op = .makeSlice t x y) (base : Nat) (e : TypeId) (z : Value) (sz bt : Nat) (ht : P.underlying t = some (.slice e)) (hi : (P.info? e).map (fun i => (i.zero, i.size, i.bytes)) = some (some z, sz, bt)) (hbt : 0 < bt)
    (kl kc : IntKind) (n : Nat) (hx : a.eval x = .int kl 0) (hy : a.eval y = .int kc (n : Int)) (hc : n * bt ≤ 281474976710656) (hbase : base ≤ w.heap.size)
    (h : ∀ w', w'.ownsRow base e sz (.slice (some ⟨w.heap.size, 0, none⟩) 0 n) 0 [] → w.grownBy w' none → wpList P ops Q rest (a.put o.dst (.slice (some ⟨w.heap.size, 0, none⟩) 0 n)) w') : wpList P ops Q (o :: rest) a w :=
  wpList_plain hgd fun K hK => by
    obtain ⟨i, hi0, hz, hsz, hby⟩ := info_parts hi
    have hn : n ≤ n * bt := Nat.le_mul_of_pos_right _ hbt
    obtain ⟨w', hr, h1, h2⟩ := run_make_own (P := P) w base t e i z sz ht hi0 hz hsz kl kc n (by rw [hby, Nat.mul_comm]; exact hc) (by simp only [maxLen]; omega) hbase
    unfold Oper.wp execOp
    simp only [ho, hx, hy, Sem.run_bind, hr, Result.andThen_ok, Sem.run_pure]
    exact hK _ _ (h w' h1 h2)
/-- make([]T, n, n), elements of one cell. -/
theorem wpl_make (hgd : o.guard = none) (t : TypeId) (x y : Operand) (ho : o.op = .makeSlice t x y) (base : Nat) (e : TypeId) (z : Value) (bt : Nat) (ht : P.underlying t = some (.slice e)) (hi : (P.info? e).map (fun i => (i.zero, i.size, i.bytes)) = some (some z, 1, bt)) (hz1 : z.cells = #[z]) (hbt : 0 < bt)
    (kl kc : IntKind) (n : Nat) (hx : a.eval x = .int kl (n : Int)) (hy : a.eval y = .int kc (n : Int)) (hc : n * bt ≤ 281474976710656) (hbase : base ≤ w.heap.size)
    (h : ∀ w', w'.ownsRow base e 1 (.slice (some ⟨w.heap.size, 0, none⟩) n n) n (List.replicate n z) → w.grownBy w' none → wpList P ops Q rest (a.put o.dst (.slice (some ⟨w.heap.size, 0, none⟩) n n)) w') : wpList P ops Q (o :: rest) a w :=
  wpList_plain hgd fun K hK => by
    obtain ⟨i, hi0, hz, hsz, hby⟩ := info_parts hi
    have hn : n ≤ n * bt := Nat.le_mul_of_pos_right _ hbt
    have hbytes : (i.bytes : Int) * (n : Int) ≤ 281474976710656 := by
      have h : ((i.bytes * n : Nat) : Int) ≤ 281474976710656 := by rw [hby, Nat.mul_comm]; omega
      rwa [Int.natCast_mul] at h
    have hr := run_make (P := P) w t e i z ht hi0 hz kl kc n n (by omega) (Int.le_refl _) hbytes (by omega)
    simp only [Int.toNat_natCast, hsz] at hr
    unfold Oper.wp execOp
    simp only [ho, hx, hy, Sem.run_bind, hr, Result.andThen_ok, Sem.run_pure]
    have hm : n ≤ maxLen := by simp only [maxLen]; omega
    refine hK _ _ (h _ ⟨by simp, .inr ⟨w.heap.size, n, _, rfl, hbase, heap_alloc_new w _, Nat.le_refl _, hm, size_madeCells _ _, ?_⟩⟩ (World.grownBy_alloc w _ none))
    rw [made_one z hz1, List.take_of_length_le]; simp
end
section
variable {P : Program} {ops : Array Oper} {rest : List Oper} {o : Oper} {a : Act} {w : World} {C : World → Prop} {R : Act → Prop}
theorem run_idx (w : World) (t e : TypeId) (ht : P.underlying t = some (.slice e)) (hi : (P.info? e).map (·.size) = some 1) (g off n c k : Nat) (kk : IntKind) (hk : k < n) :
    (Instr.indexAt t (.slice (some ⟨g, off, none⟩) n c) (.int kk (k : Int))).run P w = .ok (.pointer (some ⟨g, off + k, none⟩)) w := by
  have he : P.elem t = e := by simp [Program.elem, ht]
  have ht' : P.underlying t = some (.slice (P.elem t)) := by rw [he]; exact ht
  rw [run_indexAt_slice w t _ _ _ _ _ ht', if_pos ⟨by omega, by omega⟩, he]
  cases hq : P.info? e with
  | none => simp [hq] at hi
  | some inf =>
    have hs : inf.size = 1 := by simpa [hq] using hi
    simp [sizeOf, typeInfo, hq, hs, Addr.add]
/-- &s[k] where a region is walked quietly (elements of one cell). -/
theorem wpq_idx (hgd : o.guard = none) (t : TypeId) (x i : Operand) (ho : o.op = .indexAddr t x i) (e : TypeId) (ht : P.underlying t = some (.slice e)) (hi : (P.info? e).map (·.size) = some 1) (g off n c k : Nat) (kk : IntKind)
    (hx : a.eval x = .slice (some ⟨g, off, none⟩) n c) (hix : a.eval i = .int kk (k : Int)) (hk : k < n)
    (h : wpQuiet P ops C R rest (a.put o.dst (.pointer (some ⟨g, off + k, none⟩)))) : wpQuiet P ops C R (o :: rest) a :=
  BigFrame.wpQuiet_want (by simp [Region.wanted, hgd]) fun K hK => ⟨_, fun w hw => by
    unfold Oper.quietAt execOp
    simp only [ho, hx, hix, Sem.run_bind, run_idx w t e ht hi g off n c k kk hk, Result.andThen_ok, Sem.run_pure]
    exact ⟨rfl, rfl⟩, hK _ h⟩
end
theorem blk_setCells {g : Nat} {t : TypeId} : ∀ (vs : List Value) (o : Nat) (w : World) (cur : Array Value), Blk w g t cur → o + vs.length ≤ cur.size →
    ∃ cur', Blk (w.setCells g o vs) g t cur' ∧ cur'.toList = cur.toList.take o ++ vs ++ cur.toList.drop (o + vs.length)
  | [], _, _, cur, h, _ => ⟨cur, h, by simp⟩
  | v :: vs, o, w, cur, h, hl => by
    have hl' : o + vs.length + 1 ≤ cur.size := by simpa [Nat.add_assoc] using hl
    obtain ⟨cur', h1, h2⟩ := blk_setCells vs (o + 1) (w.setCell ⟨g, o, none⟩ v) _ (h.set_ o v) (by simp; omega)
    refine ⟨cur', h1, ?_⟩
    rw [h2, Array.toList_setIfInBounds]
    have e1 : (cur.toList.set o v).take (o + 1) = cur.toList.take o ++ [v] := by
      rw [List.take_succ_eq_append_getElem (by simp; omega), List.take_set_of_le (Nat.le_refl _)]
      simp
    have e2 : (cur.toList.set o v).drop (o + 1 + vs.length) = cur.toList.drop (o + (v :: vs).length) := by
      rw [List.drop_set_of_lt (by omega), List.length_cons, show o + 1 + vs.length = o + (vs.length + 1) by omega]
    rw [e1, e2]
    simp
theorem fr_setCells {F : Nat → Prop} {a : World} {g : Nat} (hg : F g ∨ a.heap.size ≤ g) : ∀ (vs : List Value) (o : Nat) (w : World), Fr F a w → Fr F a (w.setCells g o vs)
  | [], _, _, h => h
  | v :: vs, o, _, h => fr_setCells hg vs (o + 1) _ (h.setCell (p := ⟨g, o, none⟩) hg v)
/-- The first cells of a row of the call's own, stored anew; the row cut. -/
theorem own_setCells {w : World} {base g : Nat} {e : TypeId} {n c : Nat} {xs : List Value} (h : w.ownsRow base e 1 (.slice (some ⟨g, 0, none⟩) n c) n xs) (vs : List Value) (hv : vs.length ≤ n) (m : Nat) (hm : m ≤ vs.length) :
    (w.setCells g 0 vs).ownsRow base e 1 (.slice (some ⟨g, 0, none⟩) m c) m (vs.take m) := by
  obtain ⟨hl, h⟩ := h
  rcases h with ⟨he, h0⟩ | ⟨g', cap, cur, he, hb, hg, hnc, hcm, hcs, ht⟩
  · cases he
  · cases he
    obtain ⟨cur', h1, h2⟩ := blk_setCells vs 0 w cur hg (by omega)
    refine ⟨by simp; omega, .inr ⟨g, c, cur', rfl, hb, h1, by omega, hcm, ?_, ?_⟩⟩
    · rw [← Array.length_toList, h2]; simp; omega
    · rw [h2, List.take_zero, List.nil_append, Nat.mul_one, List.take_append_of_le_length hm]
theorem own_upd {w w' : World} {base : Nat} {e : TypeId} {size n : Nat} {v : Value} {xs : List Value} (h : w.ownsRow base e size v n xs) (hb : Below w.heap.size w w') : w'.ownsRow base e size v n xs :=
  own_fr h (Fr.of_below (F := fun _ => False) hb) (fun _ _ h => h)
theorem own_alc {w : World} {base : Nat} {e : TypeId} {size n : Nat} {v : Value} {xs : List Value} (h : w.ownsRow base e size v n xs) (o : Obj) : (w.alloc o).ownsRow base e size v n xs :=
  own_fr h ((Fr.refl (fun _ => False) w).alloc o) (fun _ _ h => h)
theorem own_low {w : World} {B B' : Nat} {e : TypeId} {size n : Nat} {v : Value} {xs : List Value} (h : w.ownsRow B' e size v n xs) (hB : B ≤ B') : w.ownsRow B e size v n xs := by
  refine ⟨h.1, ?_⟩
  rcases h.2 with h0 | ⟨g, cap, cur, rfl, hb, rest⟩
  · exact .inl h0
  · exact .inr ⟨g, cap, cur, rfl, by omega, rest⟩
/-- New cells, as a row of the call's own. -/
theorem own_cells (w : World) {B : Nat} (hB : B ≤ w.heap.size) (e : TypeId) (cs : Array Value) (xs : List Value) (hcs : cs.toList = xs) (sz n : Nat) (hl : xs.length = n * sz) (hm : n ≤ maxLen) :
    (w.alloc (.cells cs e)).ownsRow B e sz (.slice (some ⟨w.heap.size, 0, none⟩) n n) n xs := by
  refine ⟨hl, .inr ⟨w.heap.size, n, cs, rfl, hB, heap_alloc_new w _, Nat.le_refl _, hm, ?_, ?_⟩⟩
  · rw [← Array.length_toList, hcs, hl]
  · rw [hcs, List.take_of_length_le (by omega)]
theorem own_lt {w : World} {B : Nat} {e : TypeId} {size n : Nat} {v : Value} {xs : List Value} (h : w.ownsRow B e size v n xs) : ∀ k, v.ownBlock = some k → B ≤ k ∧ k < w.heap.size := h.lt
theorem fr_below {B : Nat} {a w w' : World} (h : Below B a w) (hf : Fr (fun i => B ≤ i) w w') (hB : B ≤ w.heap.size) : Below B a w' := h.trans (hf.below (fun _ h => h) hB)
end Go.Pl

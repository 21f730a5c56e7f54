/-
  A part of a block, loaded and stored whole; a slice that reads as a list, the blocks it may lie in.
-/
import Derived.Test.YtajohibeoicepaaDoorLaw
import Derived.Test.YtajohibeoicepaaDoorRow
import Derived.Deep.MidRow
import Derived.Laws.MakeOwn
import Derived.BigQuiet
namespace Go.Pl
open Go.RowKit
section
variable {P : Program} {ops : Array Oper} {rest : List Oper} {o : Oper} {a : Act} {Q : Exit → Act → World → Prop} {w : World}
theorem Blk.range {g : Nat} {t : TypeId} {old : Array Value} (h : Blk w g t old) (k : Nat) (cs : Array Value) (hp : old.extract k (k + cs.size) = cs) : w.rangeAt g k cs.toList := by
  have := World.rangeAt_of_block (w := w) h k cs.size
  rwa [hp] at this
theorem wpl_load_part (hgd : o.guard = none) (ty : TypeId) (x : Operand) (hop : o.op = .load ty x) (g k : Nat) (hx : a.eval x = .pointer (some ⟨g, k, none⟩)) (t : TypeId) (old : Array Value) (hg : Blk w g t old)
    (cs : Array Value) (hp : old.extract k (k + cs.size) = cs) (d : TypeDesc) (hu : P.underlying ty = some d) (hd : d.isRow = true) (hi : (P.info? ty).map (·.size) = some cs.size)
    (h : wpList P ops Q rest (a.put o.dst (.agg cs)) w) : wpList P ops Q (o :: rest) a w :=
  wpList_load_mid hgd ty x hop g k hx cs.toList d (hg.range k cs hp) hu hd (by simpa using hi) (by simpa using h)
/-- The same where a region is walked quietly. -/
theorem wpq_load_part {C : World → Prop} {R : Act → Prop} (hgd : o.guard = none) (ty : TypeId) (x : Operand) (hop : o.op = .load ty x) (g k : Nat) (hx : a.eval x = .pointer (some ⟨g, k, none⟩)) (t : TypeId) (old : Array Value)
    (hg : ∀ w, C w → Blk w g t old) (cs : Array Value) (hp : old.extract k (k + cs.size) = cs) (d : TypeDesc) (hu : P.underlying ty = some d) (hd : d.isRow = true) (hi : (P.info? ty).map (·.size) = some cs.size)
    (h : wpQuiet P ops C R rest (a.put o.dst (.agg cs))) : wpQuiet P ops C R (o :: rest) a :=
  BigFrame.wpQuiet_want (by simp [Region.wanted, hgd]) fun K hK => ⟨.agg cs, fun w hw => by
    have hl := run_loadVar_mid (P := P) w g k ty cs.toList d ((hg w hw).range k cs hp) hu hd (by simpa using hi)
    unfold Oper.quietAt execOp
    simp only [hop, hx, Instr.loadAt, Instr.sureAddr, Sem.run_bind, Sem.run_pure, Result.andThen_ok, hl]
    exact ⟨rfl, rfl⟩, hK _ h⟩
theorem run_storeVar_part (g k : Nat) (t ty : TypeId) (old cs new : Array Value) (hg : Blk w g t old) (hsz : (P.info? ty).map (·.size) = some cs.size) (ho : k + cs.size ≤ old.size) (h1 : ∀ v ∈ cs.toList, v.oneCell' = true)
    (hn : (old.toList.take k ++ cs.toList ++ old.toList.drop (k + cs.size)).toArray = new) :
    (storeVar ty ⟨g, k, none⟩ (.agg cs)).run P w = .ok () (w.setRow g new) := by
  cases hq : P.info? ty with
  | none => simp [hq] at hsz
  | some i =>
    have hi : i.size = cs.size := by simpa [hq] using hsz
    have hst := run_storeCells_at P g k t cs.toList 0 old w hg (by simp; omega) h1
    simp only [Nat.add_zero, Array.length_toList, hn] at hst
    simp [storeVar, Value.cells, sizeOf, typeInfo, hq, hi, hst]
/-- A part of a block stored whole; the world behind it is a new name. -/
theorem wpl_store_part (hgd : o.guard = none) (ty : TypeId) (x y : Operand) (hop : o.op = .store ty x y) (g k : Nat) (hx : a.eval x = .pointer (some ⟨g, k, none⟩)) (cs : Array Value) (hy : a.eval y = .agg cs) (t : TypeId) (old new : Array Value)
    (hg : Blk w g t old) (hsz : (P.info? ty).map (·.size) = some cs.size) (ho : k + cs.size ≤ old.size) (h1 : ∀ v ∈ cs.toList, v.oneCell' = true) (hn : (old.toList.take k ++ cs.toList ++ old.toList.drop (k + cs.size)).toArray = new)
    (h : ∀ w', Blk w' g t new → w.grownBy w' (some g) → wpList P ops Q rest (a.put o.dst undef) w') : wpList P ops Q (o :: rest) a w :=
  wpList_plain hgd fun K hK => by
    have hr := run_storeVar_part (P := P) g k t ty old cs new hg hsz ho h1 hn
    unfold Oper.wp execOp
    simp only [hop, hx, hy, Instr.storeAt, Instr.sureAddr, Sem.run_bind, Sem.run_pure, Result.andThen_ok, hr]
    exact hK _ _ (h _ (hg.setRow new) ⟨rfl, rfl, rfl, by simp, fun k _ hk => setRow_other w g k new (fun e => hk (by rw [e]))⟩)
/-- A one-cell store into a block; the world behind it is a new name. -/
theorem grown_setCell (w : World) (p : Addr) (u : Value) : w.grownBy (w.setCell p u) (some p.block) :=
  ⟨rfl, rfl, rfl, by simp [World.setCell], fun k _ hk => Below.heap_setCell w p u k (fun e => hk (by rw [e]))⟩
end
/-- The slice of address A, length n and capacity c reads as the bytes bs, in a block of which S holds. -/
structure Rd (w : World) (S : Nat → Prop) (A : Option Addr) (n c : Nat) (bs : List UInt8) : Prop where
  len : n = bs.length
  le : n ≤ c
  max : c ≤ maxLen
  none : A = none → c = 0
  at_ : 0 < n → ∃ b o, A = some ⟨b, o, Option.none⟩ ∧ S b ∧ b < w.heap.size ∧ ∀ i, i < n → w.cell? ⟨b, o + i, Option.none⟩ = some (.int .u8 ((bs.getD i 0).toNat : Int))
section
variable {w w' : World} {S T : Nat → Prop} {A : Option Addr} {n c : Nat} {bs : List UInt8}
theorem Rd.bytes (h : Rd w S A n c bs) {B : Nat} (hB : ∀ b, b < w.heap.size → S b → b < B) : Bytes w B (.slice A n c) bs := by
  refine ⟨A, c, by rw [h.len], by have := h.len; have := h.le; omega, h.max, h.none, fun hn => ?_⟩
  obtain ⟨b, o, hA, hs, hb, hc⟩ := h.at_ (by have := h.len; omega)
  exact ⟨b, o, hA, hB b hb hs, fun i hi => hc i (by have := h.len; omega)⟩
theorem Rd.all (h : Rd w S A n c bs) : Bytes w w.heap.size (.slice A n c) bs := h.bytes fun _ hb _ => hb
theorem Rd.keep (h : Rd w S A n c bs) (hs : w.heap.size ≤ w'.heap.size) (hk : ∀ p : Addr, p.block < w.heap.size → S p.block → w'.cell? p = w.cell? p) : Rd w' S A n c bs := by
  refine ⟨h.len, h.le, h.max, h.none, fun hn => ?_⟩
  obtain ⟨b, o, hA, hS, hb, hc⟩ := h.at_ hn
  exact ⟨b, o, hA, hS, by omega, fun i hi => (hk ⟨b, o + i, Option.none⟩ hb hS).trans (hc i hi)⟩
theorem Rd.fr {F : Nat → Prop} (h : Rd w S A n c bs) (hf : Fr F w w') (hF : ∀ i, S i → ¬ F i) : Rd w' S A n c bs := h.keep hf.size fun _ hb hS => hf.cell hb (hF _ hS)
theorem Rd.mono (h : Rd w S A n c bs) (hST : ∀ i, i < w.heap.size → S i → T i) : Rd w T A n c bs := by
  refine ⟨h.len, h.le, h.max, h.none, fun hn => ?_⟩
  obtain ⟨b, o, hA, hS, hb, hc⟩ := h.at_ hn
  exact ⟨b, o, hA, hST b hb hS, hb, hc⟩
theorem Rd.to (h : Rd w S A n c bs) {k : Nat} (hk : k ≤ n) : Rd w S A k c (bs.take k) := by
  have := h.le
  have hl := h.len
  refine ⟨by simp; omega, by omega, h.max, h.none, fun hn => ?_⟩
  obtain ⟨b, o, hA, hS, hb, hc⟩ := h.at_ (by omega)
  refine ⟨b, o, hA, hS, hb, fun i hi => ?_⟩
  rw [hc i (by omega)]
  have e : (bs.take k).getD i 0 = bs.getD i 0 := by simp [hi]
  rw [e]
theorem Rd.from_ (h : Rd w S A n c bs) {k : Nat} (hk : k ≤ n) : Rd w S (if c = k then A else A.map (·.add k)) (n - k) (c - k) (bs.drop k) := by
  have := h.le
  have hl := h.len
  refine ⟨by simp; omega, by omega, by have := h.max; omega, fun e => ?_, fun hn => ?_⟩
  · split at e
    · omega
    · rw [h.none (by simpa using e)]; omega
  · obtain ⟨b, o, hA, hS, hb, hc⟩ := h.at_ (by omega)
    rw [if_neg (by omega), hA]
    refine ⟨b, o + k, by simp [add_none], hS, hb, fun i hi => ?_⟩
    rw [Nat.add_assoc, hc (k + i) (by omega)]
    have e : (bs.drop k).getD i 0 = bs.getD (k + i) 0 := by simp
    rw [e]
theorem Bytes.rd {B : Nat} {v : Value} (h : Bytes w B v bs) (hB : B ≤ w.heap.size) : ∃ A n c, v = .slice A n c ∧ Rd w (· < B) A n c bs := by
  obtain ⟨A, c, hv, h1, h2, h3, h4⟩ := h
  refine ⟨A, bs.length, c, hv, rfl, h1, h2, h3, fun hn => ?_⟩
  obtain ⟨b, o, hA, hb, hc⟩ := h4 hn
  exact ⟨b, o, hA, hb, by omega, hc⟩
/-- A row of the call's own, as a slice. -/
theorem own_slice {base : Nat} {e : TypeId} {v : Value} (h : w.ownsRow base e 1 v bs.length (bs.map u8v)) :
    ∃ A c, v = .slice A bs.length c ∧ Rd w (fun i => v.ownBlock = some i) A bs.length c bs ∧ A = v.ownBlock.map (⟨·, 0, Option.none⟩) := by
  rcases h.2 with ⟨rfl, h0⟩ | ⟨g, cap, cur, rfl, hb, hg, hc1, hc2, hc3, ht⟩
  · exact ⟨none, 0, by rw [h0], ⟨rfl, by omega, by simp [maxLen], fun _ => rfl, fun h => by omega⟩, rfl⟩
  · refine ⟨_, cap, rfl, ⟨rfl, hc1, hc2, (fun e => by cases e), fun _ => ⟨g, 0, rfl, rfl, (Array.getElem?_eq_some_iff.1 hg).1, fun i hi => ?_⟩⟩, rfl⟩
    have := World.ownsRow.cells h (g := g) rfl i _ (u8v_get bs i hi)
    rwa [add_none] at this
end
section
variable {P : Program} (w : World)
/-- 'wpl_append_bytes', the result as a slice. -/
theorem wpl_append_sl {ops : Array Oper} {rest : List Oper} {o : Oper} {a : Act} {Q : Exit → Act → World → Prop} (hgd : o.guard = none) (s x : Operand) (t : TypeId)
    (ho : o.op = .call { callee := .builtin .append, args := #[s, x], argTypes := #[t, t] })
    (base : Nat) (e : TypeId) (ht : P.underlying t = some (.slice e)) (hi : (P.info? e).map (fun i => (i.zero, i.size, i.bytes)) = some (some (.int .u8 0), 1, 1))
    (v : Value) (hs : a.eval s = v) (bs : List UInt8) (hown : w.ownsRow base e 1 v bs.length (bs.map u8v)) (B : Nat) (xv : Value) (hx : a.eval x = xv) (cs : List UInt8) (hb : Bytes w B xv cs)
    (hl : bs.length + cs.length ≤ 140737488355328) (hbase : base ≤ w.heap.size)
    (n : Nat) (hn : (bs ++ cs).length = n)
    (h : ∀ A c w', w'.ownsRow base e 1 (.slice A n c) n ((bs ++ cs).map u8v) → w.grownBy w' v.ownBlock →
      ((Value.slice A n c).ownBlock = v.ownBlock ∨ (Value.slice A n c).ownBlock = some w.heap.size) → wpList P ops Q rest (a.put o.dst (.slice A n c)) w') : wpList P ops Q (o :: rest) a w :=
  wpl_append_bytes w hgd s x t ho base e ht hi v hs bs hown B xv hx cs hb hl hbase fun v' w' h1 h2 h3 => by
    subst hn
    obtain ⟨A, c, rfl, _, _⟩ := own_slice h1
    exact h A c w' h1 h2 h3
end
section
variable {P : Program} {ops : Array Oper} {rest : List Oper} {o : Oper} {a : Act} {Q : Exit → Act → World → Prop} {w : World}
theorem run_sliceAt_from (t e : TypeId) (ht : P.underlying t = some (.slice e)) (hi : (P.info? e).map (fun i => (i.zero, i.size, i.bytes)) = some (some (.int .u8 0), 1, 1)) (A : Option Addr) (n c k : Nat) (kl : IntKind) (hk : k ≤ n) :
    (Instr.sliceAt t (.slice A n c) (some (.int kl (k : Int))) none none).run P w = .ok (.slice (if c = k then A else A.map (·.add k)) (n - k) (c - k)) w := by
  obtain ⟨i, hi0, hz, hsz, hby⟩ := info_parts hi
  have he : P.elem t = e := by simp [Program.elem, ht]
  have ht' : P.underlying t = some (.slice (P.elem t)) := by rw [he]; exact ht
  rw [run_sliceAt_slice w t _ _ _ _ ht', run_slice_l w t A n c ht' kl (k : Int) (by omega) (by omega)]
  simp [he, sizeOf, typeInfo, hi0, hsz, sliced]
theorem run_sliceAt_to (t e : TypeId) (ht : P.underlying t = some (.slice e)) (hi : (P.info? e).map (fun i => (i.zero, i.size, i.bytes)) = some (some (.int .u8 0), 1, 1)) (A : Option Addr) (n c k : Nat) (kl : IntKind) (hk : k ≤ c) :
    (Instr.sliceAt t (.slice A n c) none (some (.int kl (k : Int))) none).run P w = .ok (.slice A k c) w := by
  obtain ⟨i, hi0, hz, hsz, hby⟩ := info_parts hi
  have he : P.elem t = e := by simp [Program.elem, ht]
  have ht' : P.underlying t = some (.slice (P.elem t)) := by rw [he]; exact ht
  rw [run_sliceAt_slice w t _ _ _ _ ht', run_slice_h w t A n c ht' kl (k : Int) (by omega) (by omega)]
  simp [he, sizeOf, typeInfo, hi0, hsz, sliced]
  cases A with
  | none => simp
  | some x =>
    obtain ⟨b, o, z⟩ := x
    cases z <;> simp [Addr.add]
/-- v[k:], as it reads. -/
theorem wpl_slice_from (hgd : o.guard = none) (t : TypeId) (x l : Operand) (ho : o.op = .slice t x (some l) none none) (e : TypeId) (ht : P.underlying t = some (.slice e)) (hi : (P.info? e).map (fun i => (i.zero, i.size, i.bytes)) = some (some (.int .u8 0), 1, 1))
    (S : Nat → Prop) (A : Option Addr) (n c : Nat) (bs : List UInt8) (hA : Rd w S A n c bs) (hx : a.eval x = .slice A n c) (kl : IntKind) (k : Nat) (hl : a.eval l = .int kl (k : Int)) (hk : k ≤ n)
    (h : ∀ A', Rd w S A' (n - k) (c - k) (bs.drop k) → wpList P ops Q rest (a.put o.dst (.slice A' (n - k) (c - k))) w) : wpList P ops Q (o :: rest) a w := by
  refine wpl_value w hgd (.slice (if c = k then A else A.map (·.add k)) (n - k) (c - k)) ?_ (h _ (hA.from_ hk))
  unfold execOp
  simp only [ho, hx, Option.map_some, Option.map_none, hl, Sem.run_bind, run_sliceAt_from t e ht hi A n c k kl hk, Result.andThen_ok, Sem.run_pure]
end
theorem own_rd {w : World} {base : Nat} {e : TypeId} {A : Option Addr} {n c : Nat} {bs : List UInt8} (h : w.ownsRow base e 1 (.slice A n c) n (bs.map u8v)) : Rd w (fun i => (Value.slice A n c).ownBlock = some i) A n c bs := by
  have hn : n = bs.length := by have := h.1; simp at this; omega
  subst hn
  obtain ⟨A', c', hv, hr, _⟩ := own_slice h
  cases hv
  exact hr
/-- A new row of bytes. -/
theorem own_alloc (w : World) {B : Nat} (hB : B ≤ w.heap.size) (e : TypeId) (xs : List UInt8) (cs : Array Value) (hcs : cs.toList = xs.map u8v) {n : Nat} (hn : n = xs.length) (hm : n ≤ maxLen) :
    (w.alloc (.cells cs e)).ownsRow B e 1 (.slice (some ⟨w.heap.size, 0, none⟩) n n) n (xs.map u8v) := by
  subst hn
  refine ⟨by simp, .inr ⟨w.heap.size, xs.length, cs, rfl, hB, heap_alloc_new w _, Nat.le_refl _, hm, ?_, ?_⟩⟩
  · rw [← Array.length_toList, hcs]; simp
  · rw [hcs, List.take_of_length_le]; simp
/-- The number of a slice's elements: for a loop's measure. -/
def lenOf : Value → Nat | .slice _ n _ => n | _ => 0
section
variable {P : Program} {ops : Array Oper} {rest : List Oper} {o : Oper} {a : Act} {Q : Exit → Act → World → Prop} {w : World}
/-- make([]byte, 0, c). -/
theorem wpl_make_bytes (hgd : o.guard = none) (t : TypeId) (x y : Operand) (ho : o.op = .makeSlice t x y) (base : Nat) (e : TypeId) (ht : P.underlying t = some (.slice e)) (hi : (P.info? e).map (fun i => (i.zero, i.size, i.bytes)) = some (some (.int .u8 0), 1, 1))
    (kl kc : IntKind) (c : Nat) (hx : a.eval x = .int kl 0) (hy : a.eval y = .int kc (c : Int)) (hc : c ≤ 140737488355328) (hbase : base ≤ w.heap.size)
    (h : ∀ w', w'.ownsRow base e 1 (.slice (some ⟨w.heap.size, 0, none⟩) 0 c) 0 [] → w.grownBy w' none → wpList P ops Q rest (a.put o.dst (.slice (some ⟨w.heap.size, 0, none⟩) 0 c)) w') : wpList P ops Q (o :: rest) a w :=
  wpList_plain hgd fun K hK => by
    obtain ⟨i, hi0, hz, hsz, hby⟩ := info_parts hi
    obtain ⟨w', hr, h1, h2⟩ := run_make_own (P := P) w base t e i (.int .u8 0) 1 ht hi0 hz hsz kl kc c (by rw [hby]; omega) (by simp only [maxLen]; omega) hbase
    unfold Oper.wp execOp
    simp only [ho, hx, hy, Sem.run_bind, hr, Result.andThen_ok, Sem.run_pure]
    exact hK _ _ (h w' h1 h2)
end
section
variable {P : Program} {ops : Array Oper} {rest : List Oper} {o : Oper} {a : Act} {Q : Exit → Act → World → Prop} {w : World}
/-- a[k] of an array of integers that is a value. -/
theorem wpl_index_ints (hgd : o.guard = none) (t : TypeId) (x i : Operand) (ho : o.op = .index t x i) (e : TypeId) (n : Nat) (kk kl : IntKind) (ht : P.underlying t = some (.array n e)) (he : P.underlying e = some (.int kk)) (hi : (P.info? e).map (·.size) = some 1)
    (cs : Array Value) (k : Nat) (v : Value) (hx : a.eval x = .agg cs) (hl : a.eval i = .int kl (k : Int)) (hk : k < n) (hv : cs[k]? = some v)
    (h : wpList P ops Q rest (a.put o.dst v) w) : wpList P ops Q (o :: rest) a w := by
  refine wpl_value w hgd v ?_ h
  unfold execOp
  cases hq : P.info? e with
  | none => simp [hq] at hi
  | some inf =>
    have hs : inf.size = 1 := by simpa [hq] using hi
    simp [ho, hx, hl, Instr.index, asIntOf, run_underlying ht, run_underlying he, hk, part, isAgg, sizeOf, typeInfo, hq, hs, hv]
end
section
variable {P : Program} {ops : Array Oper} {rest : List Oper} {o : Oper} {a : Act} {w : World}
theorem Rd.mid {S : Nat → Prop} {A : Option Addr} {n c : Nat} {bs : List UInt8} (h : Rd w S A n c bs) {l k : Nat} (hlk : l ≤ k) (hk : k ≤ n) : Rd w S (if c = l then A else A.map (·.add l)) (k - l) (c - l) ((bs.drop l).take (k - l)) :=
  (h.from_ (Nat.le_trans hlk hk)).to (by omega)
theorem run_sliceAt_mid (t e : TypeId) (ht : P.underlying t = some (.slice e)) (hi : (P.info? e).map (fun i => (i.zero, i.size, i.bytes)) = some (some (.int .u8 0), 1, 1)) (A : Option Addr) (n c l k : Nat) (kl kh : IntKind) (hlk : l ≤ k) (hk : k ≤ c) :
    (Instr.sliceAt t (.slice A n c) (some (.int kl (l : Int))) (some (.int kh (k : Int))) none).run P w = .ok (.slice (if c = l then A else A.map (·.add l)) (k - l) (c - l)) w := by
  obtain ⟨i, hi0, hz, hsz, hby⟩ := info_parts hi
  have he : P.elem t = e := by simp [Program.elem, ht]
  have ht' : P.underlying t = some (.slice (P.elem t)) := by rw [he]; exact ht
  rw [run_sliceAt_slice w t _ _ _ _ ht', run_slice_lh w t A n c ht' kl kh (l : Int) (k : Int) (by omega) (by omega) (by omega)]
  simp [he, sizeOf, typeInfo, hi0, hsz, sliced]
/-- v[l:k] where a region is walked quietly. -/
theorem wpq_slice_mid {C : World → Prop} {R : Act → Prop} (hgd : o.guard = none) (t : TypeId) (x y z : Operand) (ho : o.op = .slice t x (some y) (some z) none) (e : TypeId) (ht : P.underlying t = some (.slice e)) (hi : (P.info? e).map (fun i => (i.zero, i.size, i.bytes)) = some (some (.int .u8 0), 1, 1))
    (A : Option Addr) (n c : Nat) (hx : a.eval x = .slice A n c) (kl kh : IntKind) (l k : Nat) (hy : a.eval y = .int kl (l : Int)) (hz : a.eval z = .int kh (k : Int)) (hlk : l ≤ k) (hk : k ≤ c)
    (h : wpQuiet P ops C R rest (a.put o.dst (.slice (if c = l then A else A.map (·.add l)) (k - l) (c - l)))) : wpQuiet P ops C R (o :: rest) a :=
  BigFrame.wpQuiet_want (by simp [Region.wanted, hgd]) fun K hK => ⟨_, fun w hw => by
    unfold Oper.quietAt execOp
    simp only [ho, hx, Option.map_some, Option.map_none, hy, hz, Sem.run_bind, run_sliceAt_mid t e ht hi A n c l k kl kh hlk hk, Result.andThen_ok, Sem.run_pure]
    exact ⟨rfl, rfl⟩, hK _ h⟩
end
end Go.Pl

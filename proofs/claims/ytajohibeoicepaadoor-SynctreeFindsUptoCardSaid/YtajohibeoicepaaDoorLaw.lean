/-
  Laws on byte slices, over whatever program: slices of the call's own that grow, conversions, whole arrays stored; what a call may have written.
-/
import Derived.Test.YtajohibeoicepaaDoorMem
import Derived.Maps.AppendAt
import Derived.Laws.BytesArg
namespace Go.Pl
open Go.RowKit
/-! ### What a call may have written: the blocks of F, and new ones -/
structure Fr (F : Nat → Prop) (w w' : World) : Prop where
  os : w'.os = w.os
  tape : w'.tape = w.tape
  output : w'.output = w.output
  size : w.heap.size ≤ w'.heap.size
  block : ∀ k, k < w.heap.size → ¬ F k → w'.heap[k]? = w.heap[k]?
section
variable {F G : Nat → Prop} {a w w' : World}
theorem Fr.refl (F : Nat → Prop) (w : World) : Fr F w w := ⟨rfl, rfl, rfl, Nat.le_refl _, fun _ _ _ => rfl⟩
theorem Fr.trans (h : Fr F a w) (k : Fr G w w') (hG : ∀ i, G i → F i ∨ a.heap.size ≤ i) : Fr F a w' :=
  ⟨k.os.trans h.os, k.tape.trans h.tape, k.output.trans h.output, Nat.le_trans h.size k.size, fun i hi hn =>
    (k.block i (Nat.lt_of_lt_of_le hi h.size) (fun hg => by rcases hG i hg with h1 | h1; exact hn h1; omega)).trans (h.block i hi hn)⟩
theorem Fr.mono (h : Fr G a w) (hG : ∀ i, G i → F i ∨ a.heap.size ≤ i) : Fr F a w := (Fr.refl F a).trans h hG
theorem Fr.of_below (h : Below a.heap.size a w) : Fr F a w := ⟨h.os, h.tape, h.output, h.size, fun k hk _ => h.block k hk⟩
theorem Fr.below {B : Nat} (h : Fr F a w) (hF : ∀ i, F i → B ≤ i) (hB : B ≤ a.heap.size) : Below B a w := ⟨h.os, h.tape, h.output, h.size, fun k hk => h.block k (by omega) (fun hf => by have := hF k hf; omega)⟩
theorem Fr.drew (h : Fr F a w) : Fr F a w.drew := ⟨h.os, h.tape, h.output, h.size, h.block⟩
theorem Fr.drewN (h : Fr F a w) (n : Nat) : Fr F a (w.drewN n) := ⟨h.os, h.tape, h.output, h.size, h.block⟩
theorem Fr.alloc (h : Fr F a w) (o : Obj) : Fr F a (w.alloc o) :=
  ⟨h.os, h.tape, h.output, by have := h.size; simp; omega, fun k hk hn => (Below.heap_alloc w o k (Nat.lt_of_lt_of_le hk h.size)).trans (h.block k hk hn)⟩
theorem Fr.setCell (h : Fr F a w) {p : Addr} (hp : F p.block ∨ a.heap.size ≤ p.block) (u : Value) : Fr F a (w.setCell p u) :=
  ⟨h.os, h.tape, h.output, by have := h.size; simp [World.setCell]; omega, fun k hk hn => (Below.heap_setCell w p u k (fun e => by subst e; rcases hp with h1 | h1; exact hn h1; omega)).trans (h.block k hk hn)⟩
theorem Fr.setRow (h : Fr F a w) {g : Nat} (hp : F g ∨ a.heap.size ≤ g) (cs : Array Value) : Fr F a (w.setRow g cs) :=
  ⟨h.os, h.tape, h.output, by have := h.size; simp [World.setRow]; omega, fun k hk hn => (setRow_other w g k cs (fun e => by subst e; rcases hp with h1 | h1; exact hn h1; omega)).trans (h.block k hk hn)⟩
theorem Fr.grown (h : Fr F a w) {row : Option Nat} (hg : w.grownBy w' row) (hr : ∀ k, row = some k → F k ∨ a.heap.size ≤ k) : Fr F a w' :=
  h.trans (G := fun i => row = some i) ⟨hg.os, hg.tape, hg.output, hg.size, fun k hk hn => hg.block k hk (fun e => hn e.symm)⟩ (fun i hi => hr i hi)
theorem Fr.cell (h : Fr F w w') {p : Addr} (hp : p.block < w.heap.size) (hn : ¬ F p.block) : w'.cell? p = w.cell? p := World.cell?_of_block (h.block p.block hp hn)
theorem Blk.fr {g : Nat} {t : TypeId} {cs : Array Value} (h : Blk w g t cs) (hf : Fr F w w') (hn : ¬ F g) : Blk w' g t cs := (hf.block g h.lt hn).trans h
theorem own_fr {base : Nat} {e : TypeId} {size n : Nat} {v : Value} {xs : List Value} (h : w.ownsRow base e size v n xs) (hf : Fr F w w') (hn : ∀ g, v.ownBlock = some g → ¬ F g) : w'.ownsRow base e size v n xs := by
  refine ⟨h.1, ?_⟩
  rcases h.2 with h0 | ⟨g, cap, cur, rfl, hb, hg, rest⟩
  · exact .inl h0
  · exact .inr ⟨g, cap, cur, rfl, hb, (hf.block g (Array.getElem?_eq_some_iff.1 hg).1 (hn g rfl)).trans hg, rest⟩
end
theorem own_blk_ne {w : World} {g : Nat} {t : TypeId} {cs : Array Value} {base : Nat} {e : TypeId} {size n : Nat} {v : Value} {xs : List Value} (h : w.ownsRow base e size v n xs) (hg : Blk w g t cs) (hne : e ≠ t) : v.ownBlock ≠ some g := by
  rcases h.2 with ⟨rfl, _⟩ | ⟨g', cap, cur, rfl, _, hh, _⟩
  · simp [Value.ownBlock]
  · intro he
    have : g' = g := by simpa [Value.ownBlock] using he
    subst this
    exact Blk.ne_ (t := e) hh hg hne rfl
/-! ### Bytes as cells -/
def u8v (b : UInt8) : Value := .int .u8 (b.toNat : Int)
theorem u8v_one (bs : List UInt8) : ∀ u ∈ bs.map u8v, u.oneCell' = true := by
  intro u hu
  obtain ⟨b, _, rfl⟩ := List.mem_map.1 hu
  rfl
theorem u8v_get (bs : List UInt8) (i : Nat) (h : i < bs.length) : (bs.map u8v)[i]? = some (.int .u8 ((bs.getD i 0).toNat : Int)) := by
  simp [u8v, h]
/-- What 'Bytes' gives of the slice's address. -/
theorem Bytes.cells {w : World} {B : Nat} {A : Option Addr} {n c : Nat} {bs : List UInt8} (h : Bytes w B (.slice A n c) bs) :
    n = bs.length ∧ n ≤ c ∧ c ≤ maxLen ∧ (A = none → n = 0) ∧ ∀ a, A = some a → ∀ j u, (bs.map u8v)[j]? = some u → w.cell? (a.add j) = some u := by
  obtain ⟨A', c', hv, h1, h2, h3, h4⟩ := h
  cases hv
  refine ⟨rfl, h1, h2, fun e => by have := h3 e; omega, fun a ha j u hu => ?_⟩
  have hj : j < bs.length := by
    have := (List.getElem?_eq_some_iff.1 hu).1
    simpa using this
  obtain ⟨b, o, hA, _, hc⟩ := h4 (by omega)
  rw [hA] at ha
  cases ha
  rw [u8v_get bs j hj] at hu
  cases hu
  rw [add_none]
  exact hc j hj
/-- A row of the call's own reads as its bytes. -/
theorem bytes_of_own {w : World} {base : Nat} {e : TypeId} {v : Value} {bs : List UInt8} (h : w.ownsRow base e 1 v bs.length (bs.map u8v)) : Bytes w w.heap.size v bs := by
  rcases h.2 with ⟨rfl, h0⟩ | ⟨g, cap, cur, rfl, hb, hg, hc1, hc2, hc3, ht⟩
  · have : bs = [] := List.eq_nil_of_length_eq_zero h0
    subst this
    exact ⟨none, 0, rfl, by simp, by simp [maxLen], fun _ => rfl, fun h => by simp at h⟩
  · refine ⟨_, cap, rfl, hc1, hc2, (fun e => by cases e), fun _ => ⟨g, 0, rfl, (Array.getElem?_eq_some_iff.1 hg).1, fun i hi => ?_⟩⟩
    have := World.ownsRow.cells h (g := g) rfl i _ (u8v_get bs i hi)
    rwa [add_none] at this
section
variable {P : Program} (w : World)
/-- append onto a row of the call's own, from whatever byte slice. -/
theorem run_append_bytes (base : Nat) (t ty e : TypeId) (ht : P.underlying t = some (.slice e)) (hi : (P.info? e).map (fun i => (i.zero, i.size, i.bytes)) = some (some (.int .u8 0), 1, 1))
    (v : Value) (bs : List UInt8) (hown : w.ownsRow base e 1 v bs.length (bs.map u8v)) (B : Nat) (x : Value) (cs : List UInt8) (hx : Bytes w B x cs)
    (hl : bs.length + cs.length ≤ 140737488355328) (hbase : base ≤ w.heap.size) :
    ∃ v' w', (Builtin.append_ #[t, t] ty #[v, x]).run P w = .ok v' w' ∧ w'.ownsRow base e 1 v' (bs ++ cs).length ((bs ++ cs).map u8v) ∧ w.grownBy w' v.ownBlock ∧ (v'.ownBlock = v.ownBlock ∨ v'.ownBlock = some w.heap.size) := by
  obtain ⟨i, hi0, hz, hsz, hby⟩ := info_parts hi
  obtain ⟨A, c, rfl, h1, h2, h3, h4⟩ := id hx
  have hcs := (Bytes.cells hx).2.2.2.2
  have hlen : (bs ++ cs).length = bs.length + cs.length := List.length_append
  rcases A with _ | ad
  · have hc0 := h3 rfl
    have hcs0 : cs = [] := List.eq_nil_of_length_eq_zero (by omega)
    subst hcs0
    refine ⟨v, w, ?_, by simpa using hown, World.grownBy.refl w _, .inl rfl⟩
    rcases hown.2 with ⟨rfl, h0⟩ | ⟨g, cap, cur, rfl, _, _, hnc, _⟩
    · simp [Builtin.append_, run_underlying ht, sizeOf, typeInfo, hi0, Builtin.lenOf, Builtin.firstCells]
    · simp [Builtin.append_, run_underlying ht, sizeOf, typeInfo, hi0, Builtin.lenOf, Builtin.firstCells, hnc, storeCells]
  · obtain ⟨v', w', hrun, h5, h6, _, h7⟩ := run_append_own_at (P := P) w base t ty e i (.int .u8 0) 1 1 ht hi0 hz hsz hby rfl (by omega) v bs.length (bs.map u8v) hown ad cs.length c (cs.map u8v) (by simp) (hcs ad rfl) (u8v_one cs)
      (by simp only [maxLen]; omega) (by omega) hbase
    exact ⟨v', w', hrun, by rw [List.map_append, hlen]; exact h5, h6, h7⟩
theorem wpl_append_bytes {ops : Array Oper} {rest : List Oper} {o : Oper} {a : Act} {Q : Exit → Act → World → Prop} (hgd : o.guard = none) (s x : Operand) (t : TypeId)
    (ho : o.op = .call { callee := .builtin .append, args := #[s, x], argTypes := #[t, t] })
    (base : Nat) (e : TypeId) (ht : P.underlying t = some (.slice e)) (hi : (P.info? e).map (fun i => (i.zero, i.size, i.bytes)) = some (some (.int .u8 0), 1, 1))
    (v : Value) (hs : a.eval s = v) (bs : List UInt8) (hown : w.ownsRow base e 1 v bs.length (bs.map u8v)) (B : Nat) (xv : Value) (hx : a.eval x = xv) (cs : List UInt8) (hb : Bytes w B xv cs)
    (hl : bs.length + cs.length ≤ 140737488355328) (hbase : base ≤ w.heap.size)
    (h : ∀ v' w', w'.ownsRow base e 1 v' (bs ++ cs).length ((bs ++ cs).map u8v) → w.grownBy w' v.ownBlock → (v'.ownBlock = v.ownBlock ∨ v'.ownBlock = some w.heap.size) → wpList P ops Q rest (a.put o.dst v') w') : wpList P ops Q (o :: rest) a w :=
  wpList_plain hgd fun K hK => by
    obtain ⟨v', w', hrun, h2, h3, h4⟩ := run_append_bytes (P := P) w base t o.type e ht hi v bs hown B xv cs hb hl hbase
    unfold Oper.wp execOp
    simp only [ho, resolve, invoke, builtin, Sem.run_bind, Sem.run_pure, Result.andThen_ok, List.map_toArray, List.map_cons, List.map_nil, hs, hx, hrun]
    exact hK _ _ (h v' w' h2 h3 h4)
/-- string(b). -/
theorem run_string_bytes (src dst e : TypeId) (hs : P.underlying src = some (.slice e)) (he : P.underlying e = some (.int .u8)) (hd : P.underlying dst = some .string) {B : Nat} {x : Value} {bs : List UInt8} (hx : Bytes w B x bs) :
    (convert src dst x).run P w = .ok (.string ⟨bs.toArray⟩) w := by
  obtain ⟨A, c, rfl, h1, h2, h3, h4⟩ := hx
  rcases A with _ | ad
  · have : bs = [] := List.eq_nil_of_length_eq_zero (by have := h3 rfl; omega)
    subst this
    exact run_convert_bytes_nil w src e hs he _ _ dst hd
  · by_cases hn : bs.length = 0
    · have : bs = [] := List.eq_nil_of_length_eq_zero hn
      subst this
      rw [run_convert_bytes_string w src dst e _ _ _ hs he hd]
      simp [Conv.bytesToString, loadCells, loadCellsFrom]
      rfl
    · obtain ⟨b, o, hA, _, hc⟩ := h4 (by omega)
      cases hA
      have h := run_convert_bytes_arg (P := P) w src e hs he b o bs.length c (bs.map fun x => (x.toNat : Int)) (by simp) (fun i hi => by rw [hc i hi]; simp [hi]) dst hd
      rw [h, strOfNums, List.map_map]
      rw [show ((fun n : Int => UInt8.ofNat n.toNat) ∘ fun x : UInt8 => (x.toNat : Int)) = id from funext fun x => by simp, List.map_id]
theorem wpl_string_bytes {ops : Array Oper} {rest : List Oper} {o : Oper} {a : Act} {Q : Exit → Act → World → Prop} (hgd : o.guard = none) (src dst e : TypeId) (x : Operand) (ho : o.op = .convert src dst x)
    (hs : P.underlying src = some (.slice e)) (he : P.underlying e = some (.int .u8)) (hd : P.underlying dst = some .string) (B : Nat) (xv : Value) (hx : a.eval x = xv) (bs : List UInt8) (hb : Bytes w B xv bs)
    (h : wpList P ops Q rest (a.put o.dst (.string ⟨bs.toArray⟩)) w) : wpList P ops Q (o :: rest) a w :=
  wpList_plain hgd fun K hK => by
    have hr := run_string_bytes (P := P) w src dst e hs he hd hb
    unfold Oper.wp execOp
    simp only [ho, hx, Sem.run_bind, hr, Result.andThen_ok, Sem.run_pure]
    exact hK _ _ h
/-- An operation whose value is known in every world. -/
theorem wpl_value {ops : Array Oper} {rest : List Oper} {o : Oper} {a : Act} {Q : Exit → Act → World → Prop} (hgd : o.guard = none) (v : Value) (hrun : (execOp a.eval o).run P w = .ok (.value v) w)
    (h : wpList P ops Q rest (a.put o.dst v) w) : wpList P ops Q (o :: rest) a w :=
  wpList_plain hgd fun K hK => by
    unfold Oper.wp
    rw [hrun]
    exact hK _ _ h
theorem wpl_build {ops : Array Oper} {rest : List Oper} {o : Oper} {a : Act} {Q : Exit → Act → World → Prop} (hgd : o.guard = none) (t : TypeId) (parts : Array (Nat × Operand)) (_hop : o.op = .build t parts) (v : Value) (hrun : (execOp a.eval o).run P w = .ok (.value v) w)
    (h : wpList P ops Q rest (a.put o.dst v) w) : wpList P ops Q (o :: rest) a w := wpl_value w hgd v hrun h
/-- A whole struct or array stored over a block's cells. -/
theorem run_storeVar_all (g : Nat) (t ty : TypeId) (old cs : Array Value) (hg : Blk w g t old) (hsz : (P.info? ty).map (·.size) = some cs.size) (ho : old.size = cs.size) (h1 : ∀ v ∈ cs.toList, v.oneCell' = true) :
    (storeVar ty ⟨g, 0, none⟩ (.agg cs)).run P w = .ok () (w.setRow g cs) := by
  cases hq : P.info? ty with
  | none => simp [hq] at hsz
  | some i =>
    have hi : i.size = cs.size := by simpa [hq] using hsz
    have hst := run_storeCells_at P g 0 t cs.toList 0 old w hg (by simp; omega) h1
    simp only [Nat.add_zero, List.take_zero, List.nil_append, Nat.zero_add] at hst
    have hd : old.toList.drop cs.toList.length = [] := List.drop_eq_nil_of_le (by simp; omega)
    rw [hd, List.append_nil] at hst
    simp [storeVar, Value.cells, sizeOf, typeInfo, hq, hi, hst]
theorem wpl_store_all {ops : Array Oper} {rest : List Oper} {o : Oper} {a : Act} {Q : Exit → Act → World → Prop} (hgd : o.guard = none) (ty : TypeId) (x y : Operand) (hop : o.op = .store ty x y)
    (g : Nat) (hx : a.eval x = .pointer (some ⟨g, 0, none⟩)) (cs : Array Value) (hy : a.eval y = .agg cs) (t : TypeId) (old : Array Value) (hg : Blk w g t old) (hsz : (P.info? ty).map (·.size) = some cs.size) (ho : old.size = cs.size) (h1 : ∀ v ∈ cs.toList, v.oneCell' = true)
    (h : wpList P ops Q rest (a.put o.dst undef) (w.setRow g cs)) : wpList P ops Q (o :: rest) a w :=
  wpList_plain hgd fun K hK => by
    have hr := run_storeVar_all (P := P) w g t ty old cs hg hsz ho h1
    unfold Oper.wp execOp
    simp only [hop, hx, hy, Instr.storeAt, Instr.sureAddr, Sem.run_bind, Sem.run_pure, Result.andThen_ok, hr]
    exact hK _ _ h
/-- The same; the world behind it is a new name. -/
theorem wpl_store_new {ops : Array Oper} {rest : List Oper} {o : Oper} {a : Act} {Q : Exit → Act → World → Prop} (hgd : o.guard = none) (ty : TypeId) (x y : Operand) (hop : o.op = .store ty x y)
    (g : Nat) (hx : a.eval x = .pointer (some ⟨g, 0, none⟩)) (cs : Array Value) (hy : a.eval y = .agg cs) (t : TypeId) (old : Array Value) (hg : Blk w g t old) (hsz : (P.info? ty).map (·.size) = some cs.size) (ho : old.size = cs.size) (h1 : ∀ v ∈ cs.toList, v.oneCell' = true)
    (h : ∀ w', Blk w' g t cs → w.grownBy w' (some g) → wpList P ops Q rest (a.put o.dst undef) w') : wpList P ops Q (o :: rest) a w :=
  wpl_store_all w hgd ty x y hop g hx cs hy t old hg hsz ho h1 (h _ (setRow_heap w g old cs t (0, 0) hg) ⟨rfl, rfl, rfl, by simp, fun k _ hk => setRow_other w g k cs (fun e => hk (by rw [e]))⟩)
end
theorem Blk.setRow {w : World} {g : Nat} {t : TypeId} {old : Array Value} (h : Blk w g t old) (cs : Array Value) : Blk (w.setRow g cs) g t cs := setRow_heap w g old cs t (0, 0) h
theorem Blk.farRow {w : World} {g b : Nat} {t : TypeId} {cs : Array Value} (h : Blk w b t cs) (hb : b ≠ g) (xs : Array Value) : Blk (w.setRow g xs) b t cs := (setRow_other w g b xs hb).trans h
theorem below_row {B g : Nat} {a w : World} (h : Below B a w) (hg : B ≤ g) (cs : Array Value) : Below B a (w.setRow g cs) :=
  h.trans ⟨rfl, rfl, rfl, by simp, fun k hk => setRow_other w g k cs (by omega)⟩
end Go.Pl

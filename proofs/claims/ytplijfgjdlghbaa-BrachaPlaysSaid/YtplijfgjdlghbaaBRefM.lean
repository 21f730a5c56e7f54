/-
  The reference's process in memory.
-/
import Derived.Test.YtplijfgjdlghbaaBRef3
import Derived.Test.YtplijfgjdlghbaaBIn
namespace Go.Pl
open Go.RowKit
theorem at_found {cs : List Bra.Cast} {o k : Int} {i : Nat} {c : Bra.Cast} (h : ∀ j c, j < i → cs[j]? = some c → c.is o k = false) (hc : cs[i]? = some c) (hi : c.is o k = true) : Bra.at_ cs o k = i := by
  obtain ⟨hl, e⟩ := List.getElem?_eq_some_iff.1 hc
  refine (List.findIdx_eq hl).2 ⟨by rw [e]; exact hi, fun j hj => h j _ hj (List.getElem?_eq_getElem (by omega))⟩
theorem at_none {cs : List Bra.Cast} {o k : Int} (h : ∀ j c, j < cs.length → cs[j]? = some c → c.is o k = false) : Bra.at_ cs o k = cs.length := by
  refine List.findIdx_eq_length.2 fun x hx => ?_
  obtain ⟨j, hj, e⟩ := List.getElem_of_mem hx
  exact h j x hj (by rw [← e]; exact List.getElem?_eq_getElem hj)
theorem ensure_new {cs : List Bra.Cast} {o k : Int} (h : Bra.at_ cs o k = cs.length) : Bra.ensure cs o k = cs ++ [Bra.fresh o k] := by
  unfold Bra.ensure
  rw [if_neg]
  intro ha
  obtain ⟨x, hx, hi⟩ := List.any_eq_true.1 ha
  exact absurd hi (by rw [List.findIdx_eq_length.1 h x hx]; simp)
theorem ensure_old {cs : List Bra.Cast} {o k : Int} (h : Bra.at_ cs o k < cs.length) : Bra.ensure cs o k = cs := by
  unfold Bra.ensure
  rw [if_pos]
  exact List.any_eq_true.2 ⟨cs[Bra.at_ cs o k], List.getElem_mem h, List.findIdx_getElem (w := h)⟩
theorem look_all {P : Bra.Cast → Prop} {cs : List Bra.Cast} {o k : Int} (h : ∀ c ∈ cs, P c) (hf : P (Bra.fresh o k)) : P (Bra.look cs o k) := by
  unfold Bra.look
  cases hc : cs.find? (·.is o k) with
  | none => exact hf
  | some c => exact h c (List.mem_of_find?_eq_some hc)
theorem rdp_nil (w : World) (S : Nat → Prop) (g : Nat) {sz : Nat} : Row w S sz (some ⟨g, 0, none⟩) 0 0 [] := ⟨by simp, Nat.le_refl _, by simp [maxLen], (fun h => by cases h), fun h => by omega⟩
/-- v reads as these votes. -/
def VsIs (w : World) (S : Nat → Prop) (v : Value) (vs : Bra.Votes) : Prop := ∃ A n c, v = .slice A n c ∧ Row w S 2 A n c (vcs vs)
def rcells (c : Bra.Cast) (e r : Value) : List Value := [.int .i64 c.origin, .int .i64 c.number, .bool c.echoed, .bool c.readied, .bool c.delivered, e, r]
def RCs (w : World) (S : Nat → Prop) : List Bra.Cast → List Value → Prop
  | [], l => l = []
  | c :: cs, l => ∃ e r l', l = rcells c e r ++ l' ∧ VsIs w S e c.echoes ∧ VsIs w S r c.readies ∧ RCs w S cs l'
section
variable {w w' : World} {S T : Nat → Prop}
theorem VsIs.fr {F : Nat → Prop} (hf : Fr F w w') (hF : ∀ i, S i → ¬ F i) {v : Value} {vs : Bra.Votes} : VsIs w S v vs → VsIs w' S v vs
  | ⟨A, n, c, h1, h2⟩ => ⟨A, n, c, h1, h2.fr hf hF⟩
theorem VsIs.mono (hST : ∀ i, i < w.heap.size → S i → T i) {v : Value} {vs : Bra.Votes} : VsIs w S v vs → VsIs w T v vs
  | ⟨A, n, c, h1, h2⟩ => ⟨A, n, c, h1, h2.mono hST⟩
theorem VsIs.nil : VsIs w S (.slice none 0 0) [] := ⟨_, _, _, rfl, Row.nil _ _ _⟩
theorem RCs.len : ∀ {cs : List Bra.Cast} {l : List Value}, RCs w S cs l → l.length = cs.length * 7
  | [], _, h => by cases h; rfl
  | c :: cs, _, ⟨e, r, l', h1, _, _, h4⟩ => by rw [h1, List.length_append, h4.len]; simp [rcells]; omega
theorem RCs.fr {F : Nat → Prop} (hf : Fr F w w') (hF : ∀ i, S i → ¬ F i) : ∀ {cs : List Bra.Cast} {l : List Value}, RCs w S cs l → RCs w' S cs l
  | [], _, h => h
  | _ :: _, _, ⟨e, r, l', h1, h2, h3, h4⟩ => ⟨e, r, l', h1, h2.fr hf hF, h3.fr hf hF, h4.fr hf hF⟩
theorem RCs.mono (hST : ∀ i, i < w.heap.size → S i → T i) : ∀ {cs : List Bra.Cast} {l : List Value}, RCs w S cs l → RCs w T cs l
  | [], _, h => h
  | _ :: _, _, ⟨e, r, l', h1, h2, h3, h4⟩ => ⟨e, r, l', h1, h2.mono hST, h3.mono hST, h4.mono hST⟩
theorem RCs.get : ∀ {i : Nat} {cs : List Bra.Cast} {l : List Value} {c : Bra.Cast}, RCs w S cs l → cs[i]? = some c → ∃ e r, VsIs w S e c.echoes ∧ VsIs w S r c.readies ∧ ∀ j, j < 7 → l[i * 7 + j]? = (rcells c e r)[j]?
  | _, [], _, _, _, hc => by simp at hc
  | 0, c0 :: cs, _, c, ⟨e, r, l', h1, h2, h3, h4⟩, hc => by
    obtain rfl : c0 = c := by simpa using hc
    refine ⟨e, r, h2, h3, fun j hj => ?_⟩
    rw [h1, Nat.zero_mul, Nat.zero_add, List.getElem?_append_left (by simpa [rcells] using hj)]
  | i + 1, c0 :: cs, _, c, ⟨e, r, l', h1, h2, h3, h4⟩, hc => by
    obtain ⟨e', r', k1, k2, k3⟩ := h4.get (i := i) (by simpa using hc)
    refine ⟨e', r', k1, k2, fun j hj => ?_⟩
    rw [h1, List.getElem?_append_right (by simp [rcells]; omega), ← k3 j hj]
    congr 1
    simp [rcells]
    omega
theorem RCs.snoc {c : Bra.Cast} {e r : Value} (he : VsIs w S e c.echoes) (hr : VsIs w S r c.readies) : ∀ {cs : List Bra.Cast} {l : List Value}, RCs w S cs l → RCs w S (cs ++ [c]) (l ++ rcells c e r)
  | [], _, h => by cases h; exact ⟨e, r, [], by simp, he, hr, rfl⟩
  | _ :: _, _, ⟨e', r', l', h1, h2, h3, h4⟩ => ⟨e', r', l' ++ rcells c e r, by rw [h1, List.append_assoc], h2, h3, h4.snoc he hr⟩
theorem RCs.set {c : Bra.Cast} {e r : Value} (he : VsIs w S e c.echoes) (hr : VsIs w S r c.readies) : ∀ {i : Nat} {cs : List Bra.Cast} {l : List Value}, RCs w S cs l → i < cs.length → RCs w S (cs.set i c) (l.take (i * 7) ++ rcells c e r ++ l.drop (i * 7 + 7))
  | _, [], _, _, hi => by simp at hi
  | 0, c0 :: cs, _, ⟨e', r', l', h1, h2, h3, h4⟩, hi => ⟨e, r, l', by subst h1; simp [rcells], he, hr, h4⟩
  | i + 1, c0 :: cs, _, ⟨e', r', l', h1, h2, h3, h4⟩, hi => by
    have hl7 : (rcells c0 e' r').length = 7 := rfl
    refine ⟨e', r', l'.take (i * 7) ++ rcells c e r ++ l'.drop (i * 7 + 7), ?_, h2, h3, h4.set he hr (by simpa using hi)⟩
    subst h1
    rw [show (i + 1) * 7 = 7 + i * 7 by omega, ← hl7, List.take_length_add_append, hl7, show 7 + i * 7 + 7 = 7 + (i * 7 + 7) by omega, ← hl7, List.drop_length_add_append]
    simp
theorem take_put {α : Type} (X xs : List α) (a s N : Nat) (hx : xs.length = s) (h : a + s ≤ N) (hN : N ≤ X.length) : (X.take a ++ xs ++ X.drop (a + s)).take N = (X.take N).take a ++ xs ++ (X.take N).drop (a + s) := by
  have h1 : (X.take a).length = a := by rw [List.length_take]; omega
  have h2 : (X.take a ++ xs).length = a + s := by rw [List.length_append, h1, hx]
  rw [List.take_append, h2, List.take_of_length_le (l := X.take a ++ xs) (by omega), List.take_take, Nat.min_eq_left (by omega), List.drop_take]
/-- One element of a row of the call's own stored whole. -/
theorem own_put {base sz : Nat} {e : TypeId} {A : Option Addr} {n c i : Nat} {vs : List Value} (h : w.ownsRow base e sz (.slice A n c) n vs) (hi : i < n) :
    ∃ g cur, A = some ⟨g, 0, Option.none⟩ ∧ (Value.slice A n c).ownBlock = some g ∧ Blk w g e cur ∧ i * sz + sz ≤ cur.size ∧ ∀ (w' : World) (new : Array Value) (xs : List Value), xs.length = sz → (cur.toList.take (i * sz) ++ xs ++ cur.toList.drop (i * sz + sz)).toArray = new → Blk w' g e new →
      w'.ownsRow base e sz (.slice A n c) n (vs.take (i * sz) ++ xs ++ vs.drop (i * sz + sz)) := by
  obtain ⟨hl, h⟩ := h
  rcases h with ⟨he, h0⟩ | ⟨g, cap, cur, he, hb, hg, hnc, hcm, hcs, ht⟩
  · simp at he
    omega
  · have hm : i * sz + sz ≤ n * sz := by
      have := Nat.mul_le_mul_right sz (show i + 1 ≤ n from hi)
      rwa [Nat.add_mul, Nat.one_mul] at this
    have hm2 : n * sz ≤ cap * sz := Nat.mul_le_mul_right sz hnc
    cases he
    have hcl : cur.toList.length = c * sz := by simpa using hcs
    refine ⟨g, cur, rfl, rfl, hg, by omega, fun w' new xs hxs hn hb' => ⟨?_, .inr ⟨g, c, new, rfl, hb, hb', hnc, hcm, ?_, ?_⟩⟩⟩
    · rw [← ht, ← take_put _ xs (i * sz) sz (n * sz) hxs hm (by omega), List.length_take, List.length_append, List.length_append, List.length_take, List.length_drop, hxs]
      generalize i * sz = a at *
      generalize n * sz = b at *
      omega
    · rw [← hn]
      simp only [List.size_toArray, List.length_append, List.length_take, List.length_drop, hxs]
      generalize i * sz = a at *
      generalize n * sz = b at *
      generalize c * sz = d at *
      omega
    · rw [← hn, ← ht]
      exact take_put _ xs (i * sz) sz (n * sz) hxs hm (by omega)
end
section
variable {P : Program} {ops : Array Oper} {rest : List Oper} {o : Oper} {a : Act} {Q : Exit → Act → World → Prop} {w : World}
theorem wpl_load_seven (hgd : o.guard = none) (ty : TypeId) (x : Operand) (hop : o.op = .load ty x) (g k : Nat) (hx : a.eval x = .pointer (some ⟨g, k, none⟩)) (v0 v1 v2 v3 v4 v5 v6 : Value) (hr : w.rangeAt g k [v0, v1, v2, v3, v4, v5, v6])
    (d : TypeDesc) (hu : P.underlying ty = some d) (hd : d.isRow = true) (hi : (P.info? ty).map (·.size) = some 7)
    (h : wpList P ops Q rest (a.put o.dst (.agg #[v0, v1, v2, v3, v4, v5, v6])) w) : wpList P ops Q (o :: rest) a w :=
  wpList_load_mid hgd ty x hop g k hx [v0, v1, v2, v3, v4, v5, v6] d hr hu hd (by simpa using hi) (by simpa using h)
end
end Go.Pl
namespace Go.Proofs.Ytplijfgjdlghbaa
open Go.RowKit Go.Pl
theorem infoCast : (Try.prog.info? 88).map (fun i => (i.zero, i.size, i.bytes)) = some (some (.agg #[.int .i64 0, .int .i64 0, .bool false, .bool false, .bool false, .slice none 0 0, .slice none 0 0]), 7, 72) := by kernel_rfl
structure RefIn (w : World) (L : Nat → Lab) (G : Nat) (p : Bra.Proc) (k : Nat) (CA : Option Addr) (cn cc : Nat) (cv : List Value) (DA : Option Addr) (dn dc : Nat) (dv : List Value) : Prop where
  n2 : p.n ≤ 64
  kk : k ≤ 1000000
  own : p.own ≤ k
  few : p.done.length ≤ k
  cs : p.casts.length ≤ k
  vfew : ∀ c ∈ p.casts, c.echoes.length ≤ k ∧ c.readies.length ≤ k
  labs : ∀ i, L i ≠ .no → i < w.heap.size
  lab : L G = .proc
  blk : Blk w G 32 #[.int .i64 p.n, .int .i64 p.self, .int .i64 p.own, .slice CA cn cc, .slice DA dn dc]
  crow : w.ownsRow 0 88 7 (.slice CA cn cc) cn cv
  clab : ∀ g, (Value.slice CA cn cc).ownBlock = some g → L g = .states
  rcs : RCs w (fun i => L i = .byt) p.casts cv
  drow : w.ownsRow 0 56 3 (.slice DA dn dc) dn dv
  dlab : ∀ g, (Value.slice DA dn dc).ownBlock = some g → L g = .dels
  des : DesIs w (fun i => L i = .byt) p.done dv
def RefAt (w : World) (L : Nat → Lab) (G : Nat) (p : Bra.Proc) (k : Nat) : Prop := ∃ CA cn cc cv DA dn dc dv, RefIn w L G p k CA cn cc cv DA dn dc dv
section
variable {w w' : World} {L L' : Nat → Lab} {G k : Nat} {p : Bra.Proc} {CA DA : Option Addr} {cn cc dn dc : Nat} {cv dv : List Value}
theorem RefIn.at_ (h : RefIn w L G p k CA cn cc cv DA dn dc dv) : RefAt w L G p k := ⟨_, _, _, _, _, _, _, _, h⟩
theorem RefIn.cnLen (h : RefIn w L G p k CA cn cc cv DA dn dc dv) : cn = p.casts.length := by have h1 := h.crow.1; have h2 := h.rcs.len; omega
theorem RefIn.dnLen (h : RefIn w L G p k CA cn cc cv DA dn dc dv) : dn = p.done.length := by
  have h1 := h.drow.1
  have h2 : dv.length = p.done.length * 3 := h.des.len
  omega
/-- Nothing of it has been touched; new blocks may have become its own. -/
theorem RefIn.fr {F : Nat → Prop} (h : RefIn w L G p k CA cn cc cv DA dn dc dv) (hf : Fr F w w') (hF : ∀ i, F i → L i = .no) (hL : ∀ i, L i ≠ .no → L' i = L i) (hl : ∀ i, L' i ≠ .no → i < w'.heap.size) : RefIn w' L' G p k CA cn cc cv DA dn dc dv := by
  have ne : ∀ {i : Nat} {x : Lab}, L i = x → x ≠ .no → ¬ F i := fun e hx hi => hx (by rw [← e]; exact hF _ hi)
  have lb : ∀ {i : Nat} {x : Lab}, L i = x → x ≠ .no → L' i = x := fun e hx => by rw [hL _ (by rw [e]; exact hx), e]
  exact ⟨h.n2, h.kk, h.own, h.few, h.cs, h.vfew, hl, lb h.lab (by simp), h.blk.fr hf (ne h.lab (by simp)), own_fr h.crow hf (fun g e => ne (h.clab g e) (by simp)), fun g e => lb (h.clab g e) (by simp),
    (h.rcs.fr hf (fun i e => ne e (by simp))).mono (fun i _ e => lb e (by simp)), own_fr h.drow hf (fun g e => ne (h.dlab g e) (by simp)), fun g e => lb (h.dlab g e) (by simp), (h.des.fr hf (fun i e => ne e (by simp))).mono (fun i _ e => lb e (by simp))⟩
theorem RefIn.same {F : Nat → Prop} (h : RefIn w L G p k CA cn cc cv DA dn dc dv) (hf : Fr F w w') (hF : ∀ i, F i → L i = .no) : RefIn w' L G p k CA cn cc cv DA dn dc dv :=
  h.fr hf hF (fun _ _ => rfl) (fun i hi => Nat.lt_of_lt_of_le (h.labs i hi) hf.size)
theorem RefIn.up (h : RefIn w L G p k CA cn cc cv DA dn dc dv) (hb : Below w.heap.size w w') : RefIn w' L G p k CA cn cc cv DA dn dc dv := h.same (Fr.of_below (F := fun _ => False) hb) (fun _ h => h.elim)
theorem RefIn.more {k' : Nat} (h : RefIn w L G p k CA cn cc cv DA dn dc dv) (hk : k ≤ k') (hk2 : k' ≤ 1000000) : RefIn w L G p k' CA cn cc cv DA dn dc dv :=
  ⟨h.n2, hk2, Nat.le_trans h.own hk, Nat.le_trans h.few hk, Nat.le_trans h.cs hk, fun c hc => ⟨Nat.le_trans (h.vfew c hc).1 hk, Nat.le_trans (h.vfew c hc).2 hk⟩, h.labs, h.lab, h.blk, h.crow, h.clab, h.rcs, h.drow, h.dlab, h.des⟩
theorem RefAt.up (h : RefAt w L G p k) (hb : Below w.heap.size w w') : RefAt w' L G p k := by
  obtain ⟨_, _, _, _, _, _, _, _, h⟩ := h
  exact (h.up hb).at_
theorem RefAt.same {F : Nat → Prop} (h : RefAt w L G p k) (hf : Fr F w w') (hF : ∀ i, F i → L i = .no) : RefAt w' L G p k := by
  obtain ⟨_, _, _, _, _, _, _, _, h⟩ := h
  exact (h.same hf hF).at_
/-- A broadcast more: the row of casts appended to, the process's block written. -/
theorem RefIn.push {CA' : Option Addr} {cc' : Nat} {c : Bra.Cast} (h : RefIn w L G p k CA cn cc cv DA dn dc dv) (hc : c.echoes = [] ∧ c.readies = []) (hk : k + 1 ≤ 1000000) (hf : Fr (fun i => (Value.slice CA cn cc).ownBlock = some i ∨ i = G) w w')
    (hblk : Blk w' G 32 #[.int .i64 p.n, .int .i64 p.self, .int .i64 p.own, .slice CA' (cn + 1) cc', .slice DA dn dc])
    (hrow : w'.ownsRow 0 88 7 (.slice CA' (cn + 1) cc') (cn + 1) (cv ++ rcells c (.slice none 0 0) (.slice none 0 0)))
    (hl : ∀ i, L' i ≠ .no → i < w'.heap.size) (hL : ∀ i, L i ≠ .no → L' i = L i) (hs : ∀ g, (Value.slice CA' (cn + 1) cc').ownBlock = some g → L' g = .states) :
    RefIn w' L' G { p with casts := p.casts ++ [c] } (k + 1) CA' (cn + 1) cc' (cv ++ rcells c (.slice none 0 0) (.slice none 0 0)) DA dn dc dv := by
  have ne : ∀ {i : Nat} {x : Lab}, L i = x → x ≠ .states → x ≠ .proc → ¬ ((Value.slice CA cn cc).ownBlock = some i ∨ i = G) := fun e h1 h2 hi => by
    rcases hi with hi | hi
    · exact h1 (by rw [← e]; exact h.clab _ hi)
    · exact h2 (by rw [← e, hi]; exact h.lab)
  have lb : ∀ {i : Nat} {x : Lab}, L i = x → x ≠ .no → L' i = x := fun e hx => by rw [hL _ (by rw [e]; exact hx), e]
  refine ⟨h.n2, hk, Nat.le_succ_of_le h.own, Nat.le_succ_of_le h.few, by have := h.cs; simp; omega, fun x hx => ?_, hl, lb h.lab (by simp), hblk, hrow, hs, ?_, own_fr h.drow hf (fun g e => ne (h.dlab g e) (by simp) (by simp)), fun g e => lb (h.dlab g e) (by simp),
    (h.des.fr hf (fun i e => ne e (by simp) (by simp))).mono (fun i _ e => lb e (by simp))⟩
  · rcases List.mem_append.1 hx with hx | hx
    · have := h.vfew x hx; omega
    · obtain rfl : x = c := by simpa using hx
      rw [hc.1, hc.2]; simp
  · refine RCs.snoc ?_ ?_ ((h.rcs.fr hf (fun i e => ne e (by simp) (by simp))).mono (fun i _ e => lb e (by simp)))
    · rw [hc.1]; exact VsIs.nil
    · rw [hc.2]; exact VsIs.nil
/-- A broadcast anew. -/
theorem RefIn.put {c : Bra.Cast} {e r : Value} {i : Nat} (h : RefIn w L G p k CA cn cc cv DA dn dc dv) (hi : i < p.casts.length) (he : VsIs w (fun i => L i = .byt) e c.echoes) (hr : VsIs w (fun i => L i = .byt) r c.readies)
    (hv : c.echoes.length ≤ k ∧ c.readies.length ≤ k) (hf : Fr (fun i => (Value.slice CA cn cc).ownBlock = some i) w w') (hrow : w'.ownsRow 0 88 7 (.slice CA cn cc) cn (cv.take (i * 7) ++ rcells c e r ++ cv.drop (i * 7 + 7))) :
    RefIn w' L G { p with casts := p.casts.set i c } k CA cn cc (cv.take (i * 7) ++ rcells c e r ++ cv.drop (i * 7 + 7)) DA dn dc dv := by
  have ne : ∀ {i : Nat} {x : Lab}, L i = x → x ≠ .states → ¬ ((Value.slice CA cn cc).ownBlock = some i) := fun e h1 hi => h1 (by rw [← e]; exact h.clab _ hi)
  refine ⟨h.n2, h.kk, h.own, h.few, by simpa using h.cs, fun x hx => ?_, fun i hi => Nat.lt_of_lt_of_le (h.labs i hi) hf.size, h.lab, h.blk.fr hf (ne h.lab (by simp)), hrow, h.clab, ?_, own_fr h.drow hf (fun g e => ne (h.dlab g e) (by simp)), h.dlab,
    h.des.fr hf (fun i e => ne e (by simp))⟩
  · rcases List.mem_or_eq_of_mem_set hx with hx | rfl
    · exact h.vfew x hx
    · exact hv
  · exact RCs.set (he.fr hf (fun i e => ne e (by simp))) (hr.fr hf (fun i e => ne e (by simp))) (h.rcs.fr hf (fun i e => ne e (by simp))) hi
/-- A delivery more. -/
theorem RefIn.del {DA' : Option Addr} {dc' : Nat} {d : Bra.Del} {s : Value} (h : RefIn w L G p k CA cn cc cv DA dn dc dv) (hk : p.done.length + 1 ≤ k) (hf : Fr (fun i => (Value.slice DA dn dc).ownBlock = some i ∨ i = G) w w')
    (hblk : Blk w' G 32 #[.int .i64 p.n, .int .i64 p.self, .int .i64 p.own, .slice CA cn cc, .slice DA' (dn + 1) dc'])
    (hrow : w'.ownsRow 0 56 3 (.slice DA' (dn + 1) dc') (dn + 1) (dv ++ [.int .i64 d.origin, .int .i64 d.number, s])) (hsl : SlIs w' (fun i => L' i = .byt) s d.payload)
    (hl : ∀ i, L' i ≠ .no → i < w'.heap.size) (hL : ∀ i, L i ≠ .no → L' i = L i) (hs : ∀ g, (Value.slice DA' (dn + 1) dc').ownBlock = some g → L' g = .dels) :
    RefIn w' L' G { p with done := p.done ++ [d] } k CA cn cc cv DA' (dn + 1) dc' (dv ++ [.int .i64 d.origin, .int .i64 d.number, s]) := by
  have ne : ∀ {i : Nat} {x : Lab}, L i = x → x ≠ .dels → x ≠ .proc → ¬ ((Value.slice DA dn dc).ownBlock = some i ∨ i = G) := fun e h1 h2 hi => by
    rcases hi with hi | hi
    · exact h1 (by rw [← e]; exact h.dlab _ hi)
    · exact h2 (by rw [← e, hi]; exact h.lab)
  have lb : ∀ {i : Nat} {x : Lab}, L i = x → x ≠ .no → L' i = x := fun e hx => by rw [hL _ (by rw [e]; exact hx), e]
  exact ⟨h.n2, h.kk, h.own, by simpa using hk, h.cs, h.vfew, hl, lb h.lab (by simp), hblk, own_fr h.crow hf (fun g e => ne (h.clab g e) (by simp) (by simp)), fun g e => lb (h.clab g e) (by simp), (h.rcs.fr hf (fun i e => ne e (by simp) (by simp))).mono (fun i _ e => lb e (by simp)),
    hrow, hs, DesIs.snoc hsl ((h.des.fr hf (fun i e => ne e (by simp) (by simp))).mono (fun i _ e => lb e (by simp)))⟩
end
/-- Behind the append of a fresh broadcast. -/
theorem pushed {w wc w4 w5 w6 : World} {L : Nat → Lab} {G kk : Nat} {p : Bra.Proc} {CA A5 : Option Addr} {cn cc c5 : Nat} {cv : List Value} {DA : Option Addr} {dn dc : Nat} {dv : List Value} {V : Option Nat} {o k : Int} {t : TypeId} {xs : Array Value}
    (hI : RefIn wc L G p kk CA cn cc cv DA dn dc dv) (hV : (Value.slice CA cn cc).ownBlock = V) (hK : kk + 1 ≤ 1000000) (hB : Below w.heap.size w wc) (hLab : ∀ i, w.heap.size ≤ i → L i = .no) (hX : Blk wc w.heap.size t xs) (h4 : wc.heap.size ≤ w4.heap.size)
    (f5 : Fr (fun i => V = some i) wc w5) (hG : Blk w5 G 32 #[.int .i64 p.n, .int .i64 p.self, .int .i64 p.own, .slice CA cn cc, .slice DA dn dc]) (ho : w5.ownsRow 0 88 7 (.slice A5 (cn + 1) c5) (cn + 1) (cv ++ rcells (Bra.fresh o k) (.slice none 0 0) (.slice none 0 0)))
    (hz : (Value.slice A5 (cn + 1) c5).ownBlock = V ∨ (Value.slice A5 (cn + 1) c5).ownBlock = some (w4.heap.size + 1)) (hw6 : w5.setCell ⟨G, 3, none⟩ (.slice A5 (cn + 1) c5) = w6) :
    ∃ L1 CA1 cn1 cc1 cv1, RefIn w6 L1 G { p with casts := p.casts ++ [Bra.fresh o k] } (kk + 1) CA1 cn1 cc1 cv1 DA dn dc dv ∧ Blk w6 w.heap.size t xs ∧ L1 w.heap.size = .no ∧ (∀ i, i < w.heap.size → L1 i = L i) ∧ Fr (fun i => L i ≠ .no) w w6 := by
  have hBz := hB.size
  have hXl := hX.lt
  have hGl := hI.labs G (by rw [hI.lab]; simp)
  have hVs : ∀ g, V = some g → L g = .states := fun g e => hI.clab g (by rw [hV, e])
  have hVl : ∀ g, V = some g → g < wc.heap.size := fun g e => hI.labs g (by rw [hVs g e]; simp)
  have hG6 := hG.set_ 3 (.slice A5 (cn + 1) c5)
  have f56 : Fr (fun i => i = G) w5 (w5.setCell ⟨G, 3, none⟩ (.slice A5 (cn + 1) c5)) := (Fr.refl (fun i => i = G) w5).setCell (p := ⟨G, 3, none⟩) (.inl rfl) _
  rw [hw6] at hG6 f56
  have f6 : Fr (fun i => V = some i ∨ i = G) wc w6 := (f5.mono (F := fun i => V = some i ∨ i = G) (fun _ h => .inl (.inl h))).trans f56 (fun _ h => .inl (.inr h))
  obtain ⟨ob, hob⟩ : ∃ ob, (Value.slice A5 (cn + 1) c5).ownBlock = ob := ⟨_, rfl⟩
  rw [hob] at hz
  have obs : ∀ i, ob = some i → L i ≠ .no → L i = .states := fun i e hn => by
    rcases hz with h | h
    · exact hVs i (by rw [← h, e])
    · rw [h] at e
      have e : w4.heap.size + 1 = i := by simpa using e
      have := hI.labs i hn; omega
  have obG : ob ≠ some G := fun e => by have := obs G e (by rw [hI.lab]; simp); rw [hI.lab] at this; cases this
  have obX : ob ≠ some w.heap.size := fun e => by
    rcases hz with h | h
    · have := hVs w.heap.size (by rw [← h, e]); rw [hLab _ (Nat.le_refl _)] at this; cases this
    · rw [h] at e
      have e : w4.heap.size + 1 = w.heap.size := by simpa using e
      omega
  refine ⟨fun i => if ob = some i then Lab.states else L i, A5, cn + 1, c5, _, hI.push (c := Bra.fresh o k) ⟨rfl, rfl⟩ hK (by rw [hV]; exact f6) hG6 (own_fr ho f56 (fun g e h => obG (by rw [← hob, e, h]))) (fun i hi => ?_) (fun i hi => ?_) (fun g e => ?_), hX.fr f6 (fun e => ?_), ?_, fun i hi => ?_, ?_⟩
  · by_cases hx : ob = some i
    · exact Nat.lt_of_lt_of_le (own_lt ho i (by rw [hob, hx])).2 f56.size
    · try dsimp only at hi
      rw [if_neg hx] at hi
      exact Nat.lt_of_lt_of_le (hI.labs i hi) f6.size
  · try dsimp only
    by_cases hx : ob = some i
    · rw [if_pos hx, obs i hx hi]
    · rw [if_neg hx]
  · try dsimp only
    rw [if_pos (by rw [← hob]; exact e)]
  · rcases e with e | e
    · have := hVs _ e; rw [hLab _ (Nat.le_refl _)] at this; cases this
    · have h1 := hI.lab; rw [← e, hLab _ (Nat.le_refl _)] at h1; cases h1
  · try dsimp only
    rw [if_neg obX, hLab _ (Nat.le_refl _)]
  · try dsimp only
    by_cases hx : ob = some i
    · rw [if_pos hx]
      refine (obs i hx (fun hn => ?_)).symm
      rcases hz with h | h
      · have := hVs i (by rw [← h, hx]); rw [hn] at this; cases this
      · rw [h] at hx
        have hx : w4.heap.size + 1 = i := by simpa using hx
        omega
    · rw [if_neg hx]
  · refine (Fr.of_below (F := fun i => L i ≠ .no) hB).trans f6 (fun i h => ?_)
    rcases h with e | e
    · exact .inl (by rw [hVs i e]; simp)
    · exact .inl (by rw [e, hI.lab]; simp)
/-- What the reference has done with a message. -/
def RefGot (w : World) (L : Nat → Lab) (G : Nat) (p : Bra.Proc) (k : Nat) (m : Bra.Pkt) (e : Ending) (w' : World) : Prop :=
  ∃ L' A' n' c', e = .returned (.slice A' n' c') ∧ RefAt w' L' G (Bra.recv p m).1 (k + 1) ∧ RdP w' (fun i => w.heap.size ≤ i ∧ L' i = .no) A' n' c' (Bra.recv p m).2 ∧ (∀ i, i < w.heap.size → L' i = L i) ∧ Fr (fun i => L i ≠ .no) w w'
end Go.Proofs.Ytplijfgjdlghbaa

/-
  A group in memory: what each block belongs to.
-/
import Derived.Test.YtplijfgjdlghbaaBArg
import Derived.Test.YtplijfgjdlghbaaOff
import Derived.Test.YtplijfgjdlghbaaBG
namespace Go.Pl
open Go.RowKit
inductive GL where
  | no | own | grp | all | pend | casts
  | cast (j : Nat)
  | proc (j : Nat)
deriving DecidableEq
def strv (s : List UInt8) : Value := .string ⟨s.toArray⟩
def ptr (G : Nat) : Option Bra.Proc → Value
  | none => .pointer none
  | some _ => .pointer (some ⟨G, 0, none⟩)
/-- From w on only the group's blocks and new ones have changed. -/
def Went (w : World) (K : Nat → GL) (w' : World) (K' : Nat → GL) : Prop := (∀ i, i < w.heap.size → K' i = K i) ∧ Fr (fun i => K i ≠ .no ∧ K i ≠ .own) w w'
theorem Went.refl (w : World) (K : Nat → GL) : Went w K w K := ⟨fun _ _ => rfl, Fr.refl _ w⟩
theorem Went.trans {w w1 w2 : World} {K K1 K2 : Nat → GL} (h : Went w K w1 K1) (k : Went w1 K1 w2 K2) : Went w K w2 K2 :=
  ⟨fun i hi => (k.1 i (Nat.lt_of_lt_of_le hi h.2.size)).trans (h.1 i hi), h.2.trans k.2 fun i hi => by
    rcases Nat.lt_or_ge i w.heap.size with hl | hl
    · exact .inl (by rw [← h.1 i hl]; exact hi)
    · exact .inr hl⟩
theorem Went.up {w w1 w2 : World} {K K1 : Nat → GL} (h : Went w K w1 K1) (hb : Below w1.heap.size w1 w2) : Went w K w2 K1 := h.trans ⟨fun _ _ => rfl, Fr.of_below hb⟩
end Go.Pl
namespace Go.Proofs.Ytplijfgjdlghbaa
open Go.RowKit Go.Pl
structure GrpIn (w : World) (K : Nat → GL) (g : Nat) (s : Bra.Grp) (Lb : Nat → Nat → Lab) (Gs : Nat → Nat) (AA : Option Addr) (an ac : Nat) (av : List Value) (PA : Option Addr) (pn pc : Nat) (pv : List Value) (CA : Option Addr) (cn cc : Nat) (cv : List Value) : Prop where
  labs : ∀ i, K i ≠ .no → i < w.heap.size
  lab : K g = .grp
  blk : Blk w g 52 #[.slice AA an ac, .slice PA pn pc, .slice CA cn cc]
  arow : w.ownsRow 0 24 1 (.slice AA an ac) an av
  alab : ∀ b, (Value.slice AA an ac).ownBlock = some b → K b = .all
  avl : av.length = s.all.length
  aat : ∀ j o, s.all[j]? = some o → av[j]? = some (ptr (Gs j) o)
  prow : OwnO w 35 6 PA pn pc pv
  plab : ∀ b, (Value.slice PA pn pc).ownBlock = some b → K b = .pend
  pks : PksIs w (fun i => K i = .no) s.pending pv
  crow : w.ownsRow 0 53 1 (.slice CA cn cc) cn cv
  clab : ∀ b, (Value.slice CA cn cc).ownBlock = some b → K b = .casts
  cvl : cv.length = s.casts.length
  cast : ∀ j l, s.casts[j]? = some l → ∃ A n c, cv[j]? = some (.slice A n c) ∧ w.ownsRow 0 9 1 (.slice A n c) n (l.map strv) ∧ ∀ b, (Value.slice A n c).ownBlock = some b → K b = .cast j
  proc : ∀ j p, s.all[j]? = some (some p) → ProcAt w (Lb j) (Gs j) p ∧ ∀ i, Lb j i ≠ .no → K i = .proc j
def GrpAt (w : World) (K : Nat → GL) (g : Nat) (s : Bra.Grp) : Prop := ∃ Lb Gs AA an ac av PA pn pc pv CA cn cc cv, GrpIn w K g s Lb Gs AA an ac av PA pn pc pv CA cn cc cv
section
variable {w w' : World} {K K' : Nat → GL} {g : Nat} {s : Bra.Grp} {Lb : Nat → Nat → Lab} {Gs : Nat → Nat} {AA : Option Addr} {an ac : Nat} {av : List Value} {PA : Option Addr} {pn pc : Nat} {pv : List Value} {CA : Option Addr} {cn cc : Nat} {cv : List Value}
theorem GrpIn.at_ (h : GrpIn w K g s Lb Gs AA an ac av PA pn pc pv CA cn cc cv) : GrpAt w K g s := ⟨_, _, _, _, _, _, _, _, _, _, _, _, _, _, h⟩
theorem GrpIn.anLen (h : GrpIn w K g s Lb Gs AA an ac av PA pn pc pv CA cn cc cv) : an = s.all.length := by have h1 := h.arow.1; have h2 := h.avl; omega
theorem GrpIn.pnLen (h : GrpIn w K g s Lb Gs AA an ac av PA pn pc pv CA cn cc cv) : pn = s.pending.length := by have h1 := h.prow.1; have h2 := h.pks.len; omega
theorem GrpIn.cnLen (h : GrpIn w K g s Lb Gs AA an ac av PA pn pc pv CA cn cc cv) : cn = s.casts.length := by have h1 := h.crow.1; have h2 := h.cvl; omega
/-- Nothing of it has been touched; new blocks may have become the group's. -/
theorem GrpIn.upTo (h : GrpIn w K g s Lb Gs AA an ac av PA pn pc pv CA cn cc cv) (hb : Below w.heap.size w w') : GrpIn w' K g s Lb Gs AA an ac av PA pn pc pv CA cn cc cv := by
  have hf : Fr (fun _ => False) w w' := Fr.of_below hb
  refine ⟨fun i hi => Nat.lt_of_lt_of_le (h.labs i hi) hf.size, h.lab, h.blk.fr hf (fun h => h), own_fr h.arow hf (fun _ _ h => h), h.alab, h.avl, h.aat, h.prow.fr hf (fun _ _ h => h), h.plab, h.pks.fr hf (fun _ _ h => h),
    own_fr h.crow hf (fun _ _ h => h), h.clab, h.cvl, fun j l hl => ?_, fun j p hp => ⟨(h.proc j p hp).1.up hb, (h.proc j p hp).2⟩⟩
  obtain ⟨A, n, c, h1, h2, h3⟩ := h.cast j l hl
  exact ⟨A, n, c, h1, own_fr h2 hf (fun _ _ h => h), h3⟩
theorem GrpAt.up (h : GrpAt w K g s) (hb : Below w.heap.size w w') : GrpAt w' K g s := by
  obtain ⟨_, _, _, _, _, _, _, _, _, _, _, _, _, _, h⟩ := h
  exact (h.upTo hb).at_
/-- A process has gone on. -/
theorem GrpIn.step {j : Nat} {p p' : Bra.Proc} {L' : Nat → Lab} (h : GrpIn w K g s Lb Gs AA an ac av PA pn pc pv CA cn cc cv) (hj : s.all[j]? = some (some p)) (hp : ProcAt w' L' (Gs j) p') (hf : Fr (fun i => Lb j i ≠ .no) w w') (hl : ∀ i, i < w.heap.size → L' i = Lb j i) :
    ∃ K' Lb', GrpIn w' K' g (s.put j p') Lb' Gs AA an ac av PA pn pc pv CA cn cc cv ∧ Went w K w' K' ∧ ∀ i, w.heap.size ≤ i → L' i = .no → K' i = .no := by
  obtain ⟨hp0, hk0⟩ := h.proc j p hj
  have ne : ∀ {i : Nat} {x : GL}, K i = x → x ≠ .proc j → ¬ (Lb j i ≠ .no) := fun e hx hi => hx (by rw [← e]; exact hk0 _ hi)
  have hlt := h.labs
  have lo : ∀ {i : Nat} {x : GL}, K i = x → x ≠ .no → (if i < w.heap.size then K i else if L' i = .no then GL.no else .proc j) = x := fun e hx => by rw [if_pos (hlt _ (by rw [e]; exact hx)), e]
  refine ⟨fun i => if i < w.heap.size then K i else if L' i = .no then .no else .proc j, fun x => if x = j then L' else Lb x, ?_, ⟨fun i hi => if_pos hi, hf.mono fun i hi => .inl (by rw [hk0 i hi]; simp)⟩, fun i hi hn => by
    show (if i < w.heap.size then K i else if L' i = .no then GL.no else .proc j) = .no
    rw [if_neg (by omega), if_pos hn]⟩
  refine ⟨fun i hi => ?_, lo h.lab (by simp), h.blk.fr hf (ne h.lab (by simp)), own_fr h.arow hf (fun b e => ne (h.alab b e) (by simp)), fun b e => lo (h.alab b e) (by simp), by simp [Bra.Grp.put, h.avl], fun x o hx => ?_, h.prow.fr hf (fun b e => ne (h.plab b e) (by simp)), fun b e => lo (h.plab b e) (by simp),
    (h.pks.mono (T := fun i => (if i < w.heap.size then K i else if L' i = .no then GL.no else .proc j) = .no) (fun i hi hx => by rw [if_pos hi]; exact hx)).fr hf (fun i hi hF => ?_), own_fr h.crow hf (fun b e => ne (h.clab b e) (by simp)), fun b e => lo (h.clab b e) (by simp), h.cvl, fun x l hx => ?_, fun x q hq => ?_⟩
  · try dsimp only at hi
    by_cases hx : i < w.heap.size
    · exact Nat.lt_of_lt_of_le hx hf.size
    · rw [if_neg hx] at hi
      by_cases hy : L' i = .no
      · rw [if_pos hy] at hi; exact absurd rfl hi
      · exact hp.labs i hy
  · have hx' : (s.all.set j (some p'))[x]? = some o := hx
    rw [List.getElem?_set] at hx'
    by_cases hxj : j = x
    · subst hxj
      have hjl := (List.getElem?_eq_some_iff.1 hj).1
      rw [if_pos rfl, if_pos hjl] at hx'
      cases hx'
      exact h.aat j (some p) hj
    · rw [if_neg hxj] at hx'
      exact h.aat x o hx'
  · have h1 := hk0 i hF
    rw [if_pos (hlt i (by rw [h1]; simp)), h1] at hi
    cases hi
  · obtain ⟨A, n, c, h1, h2, h3⟩ := h.cast x l hx
    exact ⟨A, n, c, h1, own_fr h2 hf (fun b e => ne (h3 b e) (by simp)), fun b e => lo (h3 b e) (by simp)⟩
  · have hq' : (s.all.set j (some p'))[x]? = some (some q) := hq
    rw [List.getElem?_set] at hq'
    by_cases hxj : j = x
    · subst hxj
      have hjl := (List.getElem?_eq_some_iff.1 hj).1
      rw [if_pos rfl, if_pos hjl] at hq'
      cases hq'
      rw [if_pos rfl]
      refine ⟨hp, fun i hi => ?_⟩
      by_cases hx : i < w.heap.size
      · rw [if_pos hx]; exact hk0 i (by rw [← hl i hx]; exact hi)
      · rw [if_neg hx, if_neg hi]
    · rw [if_neg hxj] at hq'
      rw [if_neg (fun e => hxj e.symm)]
      obtain ⟨k1, k2⟩ := h.proc x q hq'
      refine ⟨k1.fr hf (fun i hi => Classical.byContradiction fun hx => ?_), fun i hi => lo (k2 i hi) (by simp)⟩
      have e1 := k2 i hx
      rw [hk0 i hi] at e1
      cases e1
      exact hxj rfl
/-- The row of pending messages anew. -/
theorem GrpIn.pend {PA' : Option Addr} {pn' pc' : Nat} {pv' : List Value} {ms : List Bra.Pkt} (h : GrpIn w K g s Lb Gs AA an ac av PA pn pc pv CA cn cc cv) (hf : Fr (fun i => (Value.slice PA pn pc).ownBlock = some i ∨ i = g) w w') (hblk : Blk w' g 52 #[.slice AA an ac, .slice PA' pn' pc', .slice CA cn cc])
    (hrow : OwnO w' 35 6 PA' pn' pc' pv') (hz : ∀ b, (Value.slice PA' pn' pc').ownBlock = some b → (Value.slice PA pn pc).ownBlock = some b ∨ w.heap.size ≤ b) (hpk : PksIs w (fun i => K i = .no) ms pv') :
    ∃ K', GrpIn w' K' g { s with pending := ms } Lb Gs AA an ac av PA' pn' pc' pv' CA cn cc cv ∧ (∀ i, i < w.heap.size → K' i = K i) ∧ Went w K w' K' := by
  have hno : ∀ i, w.heap.size ≤ i → K i = .no := fun i hi => Classical.byContradiction fun hx => by have := h.labs i hx; omega
  have fl : ∀ i, ((Value.slice PA pn pc).ownBlock = some i ∨ i = g) → K i = .pend ∨ K i = .grp := fun i hi => by
    rcases hi with hi | hi
    · exact .inl (h.plab i hi)
    · exact .inr (by rw [hi, h.lab])
  have ne : ∀ {i : Nat} {x : GL}, K i = x → x ≠ .pend → x ≠ .grp → ¬ ((Value.slice PA pn pc).ownBlock = some i ∨ i = g) := fun e h1 h2 hi => by
    rcases fl _ hi with hx | hx
    · exact h1 (by rw [← e, hx])
    · exact h2 (by rw [← e, hx])
  have hzK : ∀ b, (Value.slice PA' pn' pc').ownBlock = some b → K b ≠ .no → K b = .pend := fun b e hn => by
    rcases hz b e with hx | hx
    · exact h.plab b hx
    · exact absurd (hno b hx) hn
  have lo : ∀ {i : Nat} {x : GL}, K i = x → x ≠ .no → (if (Value.slice PA' pn' pc').ownBlock = some i then GL.pend else K i) = x := fun {i x} e hx => by
    by_cases hy : (Value.slice PA' pn' pc').ownBlock = some i
    · rw [if_pos hy, ← e, hzK i hy (by rw [e]; exact hx)]
    · rw [if_neg hy, e]
  have hK : ∀ i, i < w.heap.size → (if (Value.slice PA' pn' pc').ownBlock = some i then GL.pend else K i) = K i := fun i hi => by
    by_cases hy : (Value.slice PA' pn' pc').ownBlock = some i
    · rcases hz i hy with hx | hx
      · rw [if_pos hy, h.plab i hx]
      · omega
    · rw [if_neg hy]
  refine ⟨fun i => if (Value.slice PA' pn' pc').ownBlock = some i then .pend else K i, ?_, hK, hK, hf.mono fun i hi => .inl (by rcases fl i hi with hx | hx <;> rw [hx] <;> simp)⟩
  refine ⟨fun i hi => ?_, lo h.lab (by simp), hblk, own_fr h.arow hf (fun b e => ne (h.alab b e) (by simp) (by simp)), fun b e => lo (h.alab b e) (by simp), h.avl, h.aat, hrow, fun b e => if_pos e,
    (hpk.mono (T := fun i => (if (Value.slice PA' pn' pc').ownBlock = some i then GL.pend else K i) = .no) (fun i hi hx => by rw [hK i hi]; exact hx)).fr hf (fun i hi hF => ?_), own_fr h.crow hf (fun b e => ne (h.clab b e) (by simp) (by simp)), fun b e => lo (h.clab b e) (by simp), h.cvl, fun x l hx => ?_, fun x q hq => ?_⟩
  · try dsimp only at hi
    by_cases hy : (Value.slice PA' pn' pc').ownBlock = some i
    · exact hrow.lt i hy
    · rw [if_neg hy] at hi; exact Nat.lt_of_lt_of_le (h.labs i hi) hf.size
  · rcases fl i hF with hx | hx
    · rw [lo hx (by simp)] at hi; cases hi
    · rw [lo hx (by simp)] at hi; cases hi
  · obtain ⟨A, n, c, h1, h2, h3⟩ := h.cast x l hx
    exact ⟨A, n, c, h1, own_fr h2 hf (fun b e => ne (h3 b e) (by simp) (by simp)), fun b e => lo (h3 b e) (by simp)⟩
  · obtain ⟨k1, k2⟩ := h.proc x q hq
    refine ⟨k1.fr hf (fun i hi => Classical.byContradiction fun hx => ?_), fun i hi => lo (k2 i hi) (by simp)⟩
    exact ne (k2 i hx) (by simp) (by simp) hi
/-- A message more. -/
theorem GrpIn.push {w1 w2 w3 : World} {A' : Option Addr} {c' : Nat} {m : Bra.Pkt} {v : Value} (h : GrpIn w K g s Lb Gs AA an ac av PA pn pc pv CA cn cc cv) (hb1 : Below w.heap.size w w1) (hg : w1.grownBy w2 (Value.slice PA pn pc).ownBlock)
    (ho : OwnO w2 35 6 A' (pn + 1) c' (pv ++ pkv m v)) (hz : (Value.slice A' (pn + 1) c').ownBlock = (Value.slice PA pn pc).ownBlock ∨ (Value.slice A' (pn + 1) c').ownBlock = some w1.heap.size)
    (hw3 : w2.setCell ⟨g, 1, none⟩ (.slice A' (pn + 1) c') = w3) (hs : SlIs w (fun i => K i = .no) v m.payload) :
    ∃ K', GrpAt w3 K' g { s with pending := s.pending ++ [m] } ∧ Went w K w3 K' := by
  have f2 : Fr (fun i => (Value.slice PA pn pc).ownBlock = some i) w w2 := ((Fr.of_below (F := fun _ => False) hb1).mono (F := fun i => (Value.slice PA pn pc).ownBlock = some i) (fun _ h => h.elim)).grown hg (fun k e => .inl e)
  have hgP : (Value.slice PA pn pc).ownBlock ≠ some g := fun e => by have := h.plab g e; rw [h.lab] at this; cases this
  have hgl := h.labs g (by rw [h.lab]; simp)
  have hg3 := (h.blk.fr f2 hgP).set_ 1 (.slice A' (pn + 1) c')
  have f3 : Fr (fun i => i = g) w2 (w2.setCell ⟨g, 1, none⟩ (.slice A' (pn + 1) c')) := (Fr.refl (fun i => i = g) w2).setCell (p := ⟨g, 1, none⟩) (.inl rfl) _
  rw [hw3] at hg3 f3
  have hs1 := hb1.size
  obtain ⟨K', k1, -, k3⟩ := h.pend (ms := s.pending ++ [m]) ((f2.mono (F := fun i => (Value.slice PA pn pc).ownBlock = some i ∨ i = g) (fun _ h => .inl (.inl h))).trans f3 (fun _ h => .inl (.inr h))) hg3
    (ho.fr f3 (fun b e hb => by
      subst hb
      rcases hz with hx | hx
      · exact hgP (by rw [← hx, e])
      · rw [e] at hx
        have hx : b = w1.heap.size := by simpa using hx
        omega)) (fun b e => by
      rcases hz with hx | hx
      · exact .inl (by rw [← hx, e])
      · rw [e] at hx
        have hx : b = w1.heap.size := by simpa using hx
        exact .inr (by omega)) (h.pks.snoc hs)
  exact ⟨K', k1.at_, k3⟩
/-- What of it is left where blocks of some kinds alone have changed. -/
theorem GrpIn.move {F : Nat → Prop} (h : GrpIn w K g s Lb Gs AA an ac av PA pn pc pv CA cn cc cv) (hf : Fr F w w') (hK : ∀ i, K i ≠ .no → K' i = K i) (hK0 : ∀ i, i < w.heap.size → K i = .no → K' i = .no) (hFn : ∀ i, F i → K i ≠ .no) :
    K' g = .grp ∧ ((∀ i, F i → K i ≠ .grp) → Blk w' g 52 #[.slice AA an ac, .slice PA pn pc, .slice CA cn cc]) ∧
    ((∀ i, F i → K i ≠ .all) → w'.ownsRow 0 24 1 (.slice AA an ac) an av) ∧ (∀ b, (Value.slice AA an ac).ownBlock = some b → K' b = .all) ∧
    ((∀ i, F i → K i ≠ .pend) → OwnO w' 35 6 PA pn pc pv) ∧ (∀ b, (Value.slice PA pn pc).ownBlock = some b → K' b = .pend) ∧ PksIs w' (fun i => K' i = .no) s.pending pv ∧
    ((∀ i, F i → K i ≠ .casts) → w'.ownsRow 0 53 1 (.slice CA cn cc) cn cv) ∧ (∀ b, (Value.slice CA cn cc).ownBlock = some b → K' b = .casts) ∧
    (∀ j l, s.casts[j]? = some l → (∀ i, F i → K i ≠ .cast j) → ∃ A n c, cv[j]? = some (.slice A n c) ∧ w'.ownsRow 0 9 1 (.slice A n c) n (l.map strv) ∧ ∀ b, (Value.slice A n c).ownBlock = some b → K' b = .cast j) ∧
    (∀ j p, s.all[j]? = some (some p) → (∀ i, F i → K i ≠ .proc j) → ProcAt w' (Lb j) (Gs j) p ∧ ∀ i, Lb j i ≠ .no → K' i = .proc j) := by
  have ne : ∀ {i : Nat} {x : GL}, K i = x → (∀ i, F i → K i ≠ x) → ¬ F i := fun e hx hi => hx _ hi e
  have lo : ∀ {i : Nat} {x : GL}, K i = x → x ≠ .no → K' i = x := fun e hx => by rw [hK _ (by rw [e]; exact hx), e]
  refine ⟨lo h.lab (by simp), fun hx => h.blk.fr hf (ne h.lab hx), fun hx => own_fr h.arow hf (fun b e => ne (h.alab b e) hx), fun b e => lo (h.alab b e) (by simp), fun hx => h.prow.fr hf (fun b e => ne (h.plab b e) hx), fun b e => lo (h.plab b e) (by simp),
    (h.pks.mono (T := fun i => K i = .no ∧ K' i = .no) (fun i hi hx => ⟨hx, hK0 i hi hx⟩)).fr hf (fun i hi hF => hFn i hF hi.1) |>.mono (fun _ _ h => h.2), fun hx => own_fr h.crow hf (fun b e => ne (h.clab b e) hx), fun b e => lo (h.clab b e) (by simp), fun j l hl hx => ?_, fun j p hp hx => ?_⟩
  · obtain ⟨A, n, c, h1, h2, h3⟩ := h.cast j l hl
    exact ⟨A, n, c, h1, own_fr h2 hf (fun b e => ne (h3 b e) hx), fun b e => lo (h3 b e) (by simp)⟩
  · obtain ⟨h1, h2⟩ := h.proc j p hp
    exact ⟨h1.fr hf (fun i hi => Classical.byContradiction fun hy => hx i hi (h2 i hy)), fun i hi => lo (h2 i hi) (by simp)⟩
/-- A word more of the k-th process. -/
theorem GrpIn.word {w1 w2 w3 : World} {k n c cb c' : Nat} {l : List (List UInt8)} {A A' : Option Addr} {x : List UInt8} (h : GrpIn w K g s Lb Gs AA an ac av PA pn pc pv (some ⟨cb, 0, none⟩) cn cc cv) (hl : s.casts[k]? = some l) (hcv : cv[k]? = some (.slice A n c))
    (hlab : ∀ b, (Value.slice A n c).ownBlock = some b → K b = .cast k) (hb1 : Below w.heap.size w w1) (hg : w1.grownBy w2 (Value.slice A n c).ownBlock) (ho : w2.ownsRow 0 9 1 (.slice A' (n + 1) c') (n + 1) (l.map strv ++ [strv x]))
    (hz : (Value.slice A' (n + 1) c').ownBlock = (Value.slice A n c).ownBlock ∨ (Value.slice A' (n + 1) c').ownBlock = some w1.heap.size) (hw3 : w2.setCell ⟨cb, k, none⟩ (.slice A' (n + 1) c') = w3) :
    ∃ K', GrpAt w3 K' g { s with casts := s.casts.set k (l ++ [x]) } ∧ Went w K w3 K' := by
  have hno : ∀ i, w.heap.size ≤ i → K i = .no := fun i hi => Classical.byContradiction fun hx => by have := h.labs i hx; omega
  have hs1 := hb1.size
  obtain ⟨ob, hob⟩ : ∃ ob, (Value.slice A' (n + 1) c').ownBlock = ob := ⟨_, rfl⟩
  have f2 : Fr (fun i => (Value.slice A n c).ownBlock = some i) w w2 := ((Fr.of_below (F := fun _ => False) hb1).mono (F := fun i => (Value.slice A n c).ownBlock = some i) (fun _ h => h.elim)).grown hg (fun k e => .inl e)
  have f23 : Fr (fun i => i = cb) w2 (w2.setCell ⟨cb, k, none⟩ (.slice A' (n + 1) c')) := (Fr.refl (fun i => i = cb) w2).setCell (p := ⟨cb, k, none⟩) (.inl rfl) _
  have hcbl : K cb = .casts := h.clab cb rfl
  have hcw : cb < w.heap.size := h.labs cb (by rw [hcbl]; simp)
  have hkn : k < cn := by have h1 := (List.getElem?_eq_some_iff.1 hcv).1; have h2 := h.crow.1; omega
  have hcr2 := own_fr h.crow f2 (fun b e hb => by have h1 := hlab b hb; rw [h.clab b e] at h1; cases h1)
  obtain ⟨-, -, -, -, hset⟩ := own_g hcr2
  have hcr3 := hset k (.slice A' (n + 1) c') hkn
  rw [hw3] at f23 hcr3
  have f3 : Fr (fun i => (Value.slice A n c).ownBlock = some i ∨ i = cb) w w3 := (f2.mono (F := fun i => (Value.slice A n c).ownBlock = some i ∨ i = cb) (fun _ h => .inl (.inl h))).trans f23 (fun _ h => .inl (.inr h))
  have fl : ∀ i, ((Value.slice A n c).ownBlock = some i ∨ i = cb) → K i = .cast k ∨ K i = .casts := fun i hi => by
    rcases hi with hi | hi
    · exact .inl (hlab i hi)
    · exact .inr (by rw [hi, hcbl])
  have hzK : ∀ b, ob = some b → K b ≠ .no → K b = .cast k := fun b e hn => by
    rcases hz with hx | hx
    · exact hlab b (by rw [← hx, hob, e])
    · rw [hob, e] at hx
      have hx : b = w1.heap.size := by simpa using hx
      exact absurd (hno b (by omega)) hn
  have hKp : ∀ i, K i ≠ .no → (if ob = some i then GL.cast k else K i) = K i := fun i hi => by
    by_cases hy : ob = some i
    · rw [if_pos hy, hzK i hy hi]
    · rw [if_neg hy]
  have hK0 : ∀ i, i < w.heap.size → K i = .no → (if ob = some i then GL.cast k else K i) = .no := fun i hi hn => by
    by_cases hy : ob = some i
    · rcases hz with hx | hx
      · have := hlab i (by rw [← hx, hob, hy]); rw [hn] at this; cases this
      · rw [hob, hy] at hx
        have hx : i = w1.heap.size := by simpa using hx
        omega
    · rw [if_neg hy, hn]
  obtain ⟨m1, m2, m3, m4, m5, m6, m7, m8, m9, m10, m11⟩ := h.move (K' := fun i => if ob = some i then GL.cast k else K i) f3 hKp hK0 (fun i hi => by rcases fl i hi with e | e <;> rw [e] <;> simp)
  have av' : ∀ x : GL, x ≠ .cast k → x ≠ .casts → ∀ i, ((Value.slice A n c).ownBlock = some i ∨ i = cb) → K i ≠ x := fun x h1 h2 i hi e => by
    rcases fl i hi with h | h
    · exact h1 (by rw [← e, h])
    · exact h2 (by rw [← e, h])
  have obl : ob ≠ some cb := fun e => by have h1 := hzK cb e (by rw [hcbl]; simp); rw [hcbl] at h1; cases h1
  refine ⟨fun i => if ob = some i then GL.cast k else K i, ⟨Lb, Gs, AA, an, ac, av, PA, pn, pc, pv, some ⟨cb, 0, none⟩, cn, cc, cv.set k (.slice A' (n + 1) c'), ?_⟩, fun i hi => ?_, f3.mono fun i hi => .inl (by rcases fl i hi with e | e <;> rw [e] <;> simp)⟩
  · refine ⟨fun i hi => ?_, m1, m2 (av' _ (by simp) (by simp)), m3 (av' _ (by simp) (by simp)), m4, h.avl, h.aat, m5 (av' _ (by simp) (by simp)), m6, m7, hcr3, m9, by simpa using h.cvl, fun j l' hj => ?_, fun j p hj => m11 j p hj (av' _ (by simp) (by simp))⟩
    · try dsimp only at hi
      by_cases hy : ob = some i
      · exact Nat.lt_of_lt_of_le (own_lt ho i (by rw [hob, hy])).2 f23.size
      · rw [if_neg hy] at hi
        exact Nat.lt_of_lt_of_le (h.labs i hi) f3.size
    · by_cases hjk : j = k
      · subst hjk
        have hj' : (s.casts.set j (l ++ [x]))[j]? = some l' := hj
        have hjl := (List.getElem?_eq_some_iff.1 hl).1
        rw [List.getElem?_set_self hjl] at hj'
        cases hj'
        have hcl := (List.getElem?_eq_some_iff.1 hcv).1
        refine ⟨A', n + 1, c', List.getElem?_set_self hcl, ?_, fun b e => if_pos (by rw [← hob, e])⟩
        rw [List.map_append]
        exact own_fr ho f23 (fun b e hb => obl (by rw [← hob, e, hb]))
      · have hj' : (s.casts.set k (l ++ [x]))[j]? = some l' := hj
        rw [List.getElem?_set_ne (fun e => hjk e.symm)] at hj'
        obtain ⟨A1, n1, c1, q1, q2, q3⟩ := m10 j l' hj' (av' _ (by simpa using hjk) (by simp))
        exact ⟨A1, n1, c1, by rw [List.getElem?_set_ne (fun e => hjk e.symm)]; exact q1, q2, q3⟩
  · by_cases hn : K i = .no
    · exact (hK0 i hi hn).trans hn.symm
    · exact hKp i hn
/-- A block of the run's own beside it. -/
theorem GrpIn.scratch {ob : Option Nat} (h : GrpIn w K g s Lb Gs AA an ac av PA pn pc pv CA cn cc cv) (hf : Fr (fun i => K i = .own) w w') (hob : ∀ b, ob = some b → (K b = .own ∨ w.heap.size ≤ b) ∧ b < w'.heap.size) :
    GrpIn w' (fun i => if ob = some i then .own else K i) g s Lb Gs AA an ac av PA pn pc pv CA cn cc cv ∧ (∀ i, K i ≠ .no → (if ob = some i then GL.own else K i) = K i) ∧ (∀ i, i < w.heap.size → (if ob = some i then GL.own else K i) = K i) := by
  have hno : ∀ i, w.heap.size ≤ i → K i = .no := fun i hi => Classical.byContradiction fun hx => by have := h.labs i hx; omega
  have hKp : ∀ i, K i ≠ .no → (if ob = some i then GL.own else K i) = K i := fun i hi => by
    by_cases hy : ob = some i
    · rcases (hob i hy).1 with hx | hx
      · rw [if_pos hy, hx]
      · exact absurd (hno i hx) hi
    · rw [if_neg hy]
  have hKw : ∀ i, i < w.heap.size → (if ob = some i then GL.own else K i) = K i := fun i hi => by
    by_cases hy : ob = some i
    · rcases (hob i hy).1 with hx | hx
      · rw [if_pos hy, hx]
      · omega
    · rw [if_neg hy]
  obtain ⟨m1, m2, m3, m4, m5, m6, m7, m8, m9, m10, m11⟩ := h.move (K' := fun i => if ob = some i then GL.own else K i) hf hKp (fun i hi hn => (hKw i hi).trans hn) (fun i hi => by rw [hi]; simp)
  have av' : ∀ x : GL, x ≠ .own → ∀ i, K i = .own → K i ≠ x := fun x h1 i hi e => h1 (by rw [← e, hi])
  refine ⟨⟨fun i hi => ?_, m1, m2 (av' _ (by simp)), m3 (av' _ (by simp)), m4, h.avl, h.aat, m5 (av' _ (by simp)), m6, m7, m8 (av' _ (by simp)), m9, h.cvl, fun j l hj => m10 j l hj (av' _ (by simp)), fun j p hj => m11 j p hj (av' _ (by simp))⟩, hKp, hKw⟩
  try dsimp only at hi
  by_cases hy : ob = some i
  · exact (hob i hy).2
  · rw [if_neg hy] at hi
    exact Nat.lt_of_lt_of_le (h.labs i hi) hf.size
/-- A list of words more. -/
theorem GrpIn.moreCast {w1 w2 w3 : World} {A' : Option Addr} {c' : Nat} (h : GrpIn w K g s Lb Gs AA an ac av PA pn pc pv CA cn cc cv) (hb1 : Below w.heap.size w w1) (hlt : w.heap.size < w1.heap.size) (hin : w1.ownsRow 0 9 1 (.slice (some ⟨w.heap.size, 0, none⟩) 0 0) 0 [])
    (hg : w1.grownBy w2 (Value.slice CA cn cc).ownBlock) (ho : w2.ownsRow 0 53 1 (.slice A' (cn + 1) c') (cn + 1) (cv ++ [.slice (some ⟨w.heap.size, 0, none⟩) 0 0]))
    (hz : (Value.slice A' (cn + 1) c').ownBlock = (Value.slice CA cn cc).ownBlock ∨ (Value.slice A' (cn + 1) c').ownBlock = some w1.heap.size) (hw3 : w2.setCell ⟨g, 2, none⟩ (.slice A' (cn + 1) c') = w3) :
    ∃ K', GrpAt w3 K' g { s with casts := s.casts ++ [[]] } ∧ (∀ i, K i ≠ .no → K' i = K i) ∧ (∀ i, K' i ≠ .no → K i ≠ .no ∨ w.heap.size ≤ i) ∧ Fr (fun i => K i = .casts ∨ K i = .grp) w w3 := by
  have hno : ∀ i, w.heap.size ≤ i → K i = .no := fun i hi => Classical.byContradiction fun hx => by have := h.labs i hx; omega
  have hs1 := hb1.size
  obtain ⟨ob, hob⟩ : ∃ ob, (Value.slice A' (cn + 1) c').ownBlock = ob := ⟨_, rfl⟩
  have hgP : (Value.slice CA cn cc).ownBlock ≠ some g := fun e => by have := h.clab g e; rw [h.lab] at this; cases this
  have f2 : Fr (fun i => (Value.slice CA cn cc).ownBlock = some i) w w2 := ((Fr.of_below (F := fun _ => False) hb1).mono (F := fun i => (Value.slice CA cn cc).ownBlock = some i) (fun _ h => h.elim)).grown hg (fun k e => .inl e)
  have hgl := h.labs g (by rw [h.lab]; simp)
  have hg3 := (h.blk.fr f2 hgP).set_ 2 (.slice A' (cn + 1) c')
  have f23 : Fr (fun i => i = g) w2 (w2.setCell ⟨g, 2, none⟩ (.slice A' (cn + 1) c')) := (Fr.refl (fun i => i = g) w2).setCell (p := ⟨g, 2, none⟩) (.inl rfl) _
  rw [hw3] at hg3 f23
  have f3 : Fr (fun i => (Value.slice CA cn cc).ownBlock = some i ∨ i = g) w w3 := (f2.mono (F := fun i => (Value.slice CA cn cc).ownBlock = some i ∨ i = g) (fun _ h => .inl (.inl h))).trans f23 (fun _ h => .inl (.inr h))
  have f13 : Fr (fun i => (Value.slice CA cn cc).ownBlock = some i ∨ i = g) w1 w3 := (((Fr.refl (fun i => (Value.slice CA cn cc).ownBlock = some i) w1).grown hg (fun k e => .inl e)).mono (F := fun i => (Value.slice CA cn cc).ownBlock = some i ∨ i = g) (fun _ h => .inl (.inl h))).trans f23 (fun _ h => .inl (.inr h))
  have fl : ∀ i, ((Value.slice CA cn cc).ownBlock = some i ∨ i = g) → K i = .casts ∨ K i = .grp := fun i hi => by
    rcases hi with hi | hi
    · exact .inl (h.clab i hi)
    · exact .inr (by rw [hi, h.lab])
  have hzK : ∀ b, ob = some b → (K b ≠ .no → K b = .casts) ∧ b ≠ w.heap.size ∧ (b < w.heap.size → K b = .casts) := fun b e => by
    rcases hz with hx | hx
    · have h1 := h.clab b (by rw [← hx, hob, e])
      have h2 := h.labs b (by rw [h1]; simp)
      exact ⟨fun _ => h1, by omega, fun _ => h1⟩
    · rw [hob, e] at hx
      have hx : b = w1.heap.size := by simpa using hx
      exact ⟨fun hn => absurd (hno b (by omega)) hn, by omega, fun _ => by omega⟩
  have hKp : ∀ i, K i ≠ .no → (if ob = some i then GL.casts else if i = w.heap.size then .cast s.casts.length else K i) = K i := fun i hi => by
    by_cases hy : ob = some i
    · rw [if_pos hy, (hzK i hy).1 hi]
    · rw [if_neg hy, if_neg (fun e => hi (hno i (by omega)))]
  have hK0 : ∀ i, i < w.heap.size → K i = .no → (if ob = some i then GL.casts else if i = w.heap.size then .cast s.casts.length else K i) = .no := fun i hi hn => by
    by_cases hy : ob = some i
    · have := (hzK i hy).2.2 hi; rw [hn] at this; cases this
    · rw [if_neg hy, if_neg (by omega), hn]
  obtain ⟨m1, m2, m3, m4, m5, m6, m7, m8, m9, m10, m11⟩ := h.move (K' := fun i => if ob = some i then GL.casts else if i = w.heap.size then .cast s.casts.length else K i) f3 hKp hK0 (fun i hi => by rcases fl i hi with e | e <;> rw [e] <;> simp)
  have av' : ∀ x : GL, x ≠ .casts → x ≠ .grp → ∀ i, ((Value.slice CA cn cc).ownBlock = some i ∨ i = g) → K i ≠ x := fun x h1 h2 i hi e => by
    rcases fl i hi with h | h
    · exact h1 (by rw [← e, h])
    · exact h2 (by rw [← e, h])
  refine ⟨fun i => if ob = some i then GL.casts else if i = w.heap.size then .cast s.casts.length else K i, ⟨Lb, Gs, AA, an, ac, av, PA, pn, pc, pv, A', cn + 1, c', cv ++ [.slice (some ⟨w.heap.size, 0, none⟩) 0 0], ?_⟩, hKp, fun i hi => ?_, f3.mono fun i hi => .inl (fl i hi)⟩
  · refine ⟨fun i hi => ?_, m1, hg3, m3 (av' _ (by simp) (by simp)), m4, h.avl, h.aat, m5 (av' _ (by simp) (by simp)), m6, m7, own_fr ho f23 (fun b e hb => ?_), fun b e => if_pos (by rw [← hob, e]), by simp [h.cvl], fun j l' hj => ?_, fun j p hj => m11 j p hj (av' _ (by simp) (by simp))⟩
    · try dsimp only at hi
      by_cases hy : ob = some i
      · exact Nat.lt_of_lt_of_le (own_lt ho i (by rw [hob, hy])).2 f23.size
      · rw [if_neg hy] at hi
        have hsz := f13.size
        by_cases hx : i = w.heap.size
        · omega
        · rw [if_neg hx] at hi
          exact Nat.lt_of_lt_of_le (h.labs i hi) f3.size
    · subst hb
      have h1 := (hzK b (by rw [← hob, e])).1 (by rw [h.lab]; simp)
      rw [h.lab] at h1; cases h1
    · have hj' : (s.casts ++ [[]])[j]? = some l' := hj
      by_cases hjl : j < s.casts.length
      · rw [List.getElem?_append_left hjl] at hj'
        obtain ⟨A1, n1, c1, q1, q2, q3⟩ := m10 j l' hj' (av' _ (by simp) (by simp))
        exact ⟨A1, n1, c1, by rw [List.getElem?_append_left (by rw [h.cvl]; exact hjl)]; exact q1, q2, q3⟩
      · have hje : j = s.casts.length := by have := (List.getElem?_eq_some_iff.1 hj').1; simp at this; omega
        subst hje
        have hl' : l' = [] := by simpa using hj'.symm
        subst hl'
        refine ⟨some ⟨w.heap.size, 0, none⟩, 0, 0, by rw [← h.cvl]; simp, own_fr hin f13 (fun b e hb => ?_), fun b e => ?_⟩
        · have e : w.heap.size = b := by simpa [Value.ownBlock] using e
          have := h.labs b (by rcases fl b hb with h | h <;> rw [h] <;> simp)
          omega
        · have e : w.heap.size = b := by simpa [Value.ownBlock] using e
          subst e
          show (if ob = some w.heap.size then GL.casts else if w.heap.size = w.heap.size then .cast s.casts.length else K w.heap.size) = _
          rw [if_neg (fun e => (hzK _ e).2.1 rfl), if_pos rfl]
  · try dsimp only at hi
    by_cases hl : w.heap.size ≤ i
    · exact .inr hl
    · by_cases hn : K i = .no
      · exact absurd (hK0 i (by omega) hn) hi
      · exact .inl hn
/-- A process more, or a liar. -/
theorem GrpIn.moreAll {w1 w2 w3 : World} {A' : Option Addr} {c' G : Nat} {L : Nat → Lab} {o : Option Bra.Proc} (h : GrpIn w K g s Lb Gs AA an ac av PA pn pc pv CA cn cc cv) (hpd : s.pending = []) (hp : ∀ p, o = some p → ProcAt w L G p) (hL : ∀ i, L i ≠ .no → K i = .no ∧ i < w.heap.size)
    (hb1 : Below w.heap.size w w1) (hg : w1.grownBy w2 (Value.slice AA an ac).ownBlock) (ho : w2.ownsRow 0 24 1 (.slice A' (an + 1) c') (an + 1) (av ++ [ptr G o]))
    (hz : (Value.slice A' (an + 1) c').ownBlock = (Value.slice AA an ac).ownBlock ∨ (Value.slice A' (an + 1) c').ownBlock = some w1.heap.size) (hw3 : w2.setCell ⟨g, 0, none⟩ (.slice A' (an + 1) c') = w3) :
    ∃ K', GrpAt w3 K' g { s with all := s.all ++ [o] } ∧ (∀ i, K i ≠ .no → K' i = K i) ∧ (∀ i, K' i ≠ .no → K i ≠ .no ∨ L i ≠ .no ∨ w.heap.size ≤ i) ∧ Fr (fun i => K i = .all ∨ K i = .grp) w w3 := by
  have hno : ∀ i, w.heap.size ≤ i → K i = .no := fun i hi => Classical.byContradiction fun hx => by have := h.labs i hx; omega
  have hs1 := hb1.size
  obtain ⟨ob, hob⟩ : ∃ ob, (Value.slice A' (an + 1) c').ownBlock = ob := ⟨_, rfl⟩
  have hgP : (Value.slice AA an ac).ownBlock ≠ some g := fun e => by have := h.alab g e; rw [h.lab] at this; cases this
  have f2 : Fr (fun i => (Value.slice AA an ac).ownBlock = some i) w w2 := ((Fr.of_below (F := fun _ => False) hb1).mono (F := fun i => (Value.slice AA an ac).ownBlock = some i) (fun _ h => h.elim)).grown hg (fun k e => .inl e)
  have hgl := h.labs g (by rw [h.lab]; simp)
  have hg3 := (h.blk.fr f2 hgP).set_ 0 (.slice A' (an + 1) c')
  have f23 : Fr (fun i => i = g) w2 (w2.setCell ⟨g, 0, none⟩ (.slice A' (an + 1) c')) := (Fr.refl (fun i => i = g) w2).setCell (p := ⟨g, 0, none⟩) (.inl rfl) _
  rw [hw3] at hg3 f23
  have f3 : Fr (fun i => (Value.slice AA an ac).ownBlock = some i ∨ i = g) w w3 := (f2.mono (F := fun i => (Value.slice AA an ac).ownBlock = some i ∨ i = g) (fun _ h => .inl (.inl h))).trans f23 (fun _ h => .inl (.inr h))
  have fl : ∀ i, ((Value.slice AA an ac).ownBlock = some i ∨ i = g) → K i = .all ∨ K i = .grp := fun i hi => by
    rcases hi with hi | hi
    · exact .inl (h.alab i hi)
    · exact .inr (by rw [hi, h.lab])
  have hzK : ∀ b, ob = some b → (K b ≠ .no → K b = .all) ∧ (b < w.heap.size → K b = .all) := fun b e => by
    rcases hz with hx | hx
    · have h1 := h.alab b (by rw [← hx, hob, e])
      exact ⟨fun _ => h1, fun _ => h1⟩
    · rw [hob, e] at hx
      have hx : b = w1.heap.size := by simpa using hx
      exact ⟨fun hn => absurd (hno b (by omega)) hn, fun _ => by omega⟩
  have hKp : ∀ i, K i ≠ .no → (if ob = some i then GL.all else if L i ≠ .no then .proc s.all.length else K i) = K i := fun i hi => by
    by_cases hy : ob = some i
    · rw [if_pos hy, (hzK i hy).1 hi]
    · rw [if_neg hy, if_neg (fun e => hi (hL i e).1)]
  -- the messages are none: a block of no one may become a process's
  have hps := h.pks
  rw [hpd] at hps
  have hpv : pv = [] := hps
  have av' : ∀ x : GL, x ≠ .all → x ≠ .grp → ∀ i, ((Value.slice AA an ac).ownBlock = some i ∨ i = g) → K i ≠ x := fun x h1 h2 i hi e => by
    rcases fl i hi with h | h
    · exact h1 (by rw [← e, h])
    · exact h2 (by rw [← e, h])
  have ne : ∀ {i : Nat} {x : GL}, K i = x → x ≠ .all → x ≠ .grp → ¬ ((Value.slice AA an ac).ownBlock = some i ∨ i = g) := fun e h1 h2 hi => av' _ h1 h2 _ hi e
  have lo : ∀ {i : Nat} {x : GL}, K i = x → x ≠ .no → (if ob = some i then GL.all else if L i ≠ .no then .proc s.all.length else K i) = x := fun e hx => by rw [hKp _ (by rw [e]; exact hx), e]
  refine ⟨fun i => if ob = some i then GL.all else if L i ≠ .no then .proc s.all.length else K i, ⟨fun x => if x = s.all.length then L else Lb x, fun x => if x = s.all.length then G else Gs x, A', an + 1, c', av ++ [ptr G o], PA, pn, pc, pv, CA, cn, cc, cv, ?_⟩, hKp, fun i hi => ?_, f3.mono fun i hi => .inl (fl i hi)⟩
  · refine ⟨fun i hi => ?_, lo h.lab (by simp), hg3, own_fr ho f23 (fun b e hb => ?_), fun b e => if_pos (by rw [← hob, e]), by simp [h.avl], fun x r hx => ?_, h.prow.fr f3 (fun b e => ne (h.plab b e) (by simp) (by simp)), fun b e => lo (h.plab b e) (by simp), ?_,
      own_fr h.crow f3 (fun b e => ne (h.clab b e) (by simp) (by simp)), fun b e => lo (h.clab b e) (by simp), h.cvl, fun x l hx => ?_, fun x q hq => ?_⟩
    · try dsimp only at hi
      by_cases hy : ob = some i
      · exact Nat.lt_of_lt_of_le (own_lt ho i (by rw [hob, hy])).2 f23.size
      · rw [if_neg hy] at hi
        have hsz := f3.size
        by_cases hx : L i ≠ .no
        · have := (hL i hx).2; omega
        · rw [if_neg hx] at hi
          exact Nat.lt_of_lt_of_le (h.labs i hi) f3.size
    · subst hb
      have h1 := (hzK b (by rw [← hob, e])).1 (by rw [h.lab]; simp)
      rw [h.lab] at h1; cases h1
    · have hx' : (s.all ++ [o])[x]? = some r := hx
      by_cases hxl : x < s.all.length
      · rw [List.getElem?_append_left hxl] at hx'
        rw [List.getElem?_append_left (by rw [h.avl]; exact hxl), if_neg (by omega)]
        exact h.aat x r hx'
      · have hxe : x = s.all.length := by have := (List.getElem?_eq_some_iff.1 hx').1; simp at this; omega
        subst hxe
        have hr : o = r := by simpa using hx'
        subst hr
        rw [if_pos rfl, ← h.avl]
        simp
    · show PksIs w3 _ s.pending pv
      rw [hpd, hpv]; rfl
    · obtain ⟨A1, n1, c1, q1, q2, q3⟩ := h.cast x l hx
      exact ⟨A1, n1, c1, q1, own_fr q2 f3 (fun b e => ne (q3 b e) (by simp) (by simp)), fun b e => lo (q3 b e) (by simp)⟩
    · have hx' : (s.all ++ [o])[x]? = some (some q) := hq
      by_cases hxl : x < s.all.length
      · rw [List.getElem?_append_left hxl] at hx'
        obtain ⟨k1, k2⟩ := h.proc x q hx'
        rw [if_neg (by omega), if_neg (by omega)]
        exact ⟨k1.fr f3 (fun i hi => Classical.byContradiction fun hy => ne (k2 i hy) (by simp) (by simp) hi), fun i hi => lo (k2 i hi) (by simp)⟩
      · have hxe : x = s.all.length := by have := (List.getElem?_eq_some_iff.1 hx').1; simp at this; omega
        subst hxe
        have hr : o = some q := by simpa using hx'
        rw [if_pos rfl, if_pos rfl]
        refine ⟨(hp q hr).fr f3 (fun i hi => Classical.byContradiction fun hy => ?_), fun i hi => ?_⟩
        · have h1 := (hL i hy).1
          rcases fl i hi with h | h <;> rw [h1] at h <;> cases h
        · rw [if_neg (fun e => ?_), if_pos hi]
          have h1 := (hzK i e).2 (hL i hi).2
          rw [(hL i hi).1] at h1; cases h1
  · try dsimp only at hi
    by_cases hl : w.heap.size ≤ i
    · exact .inr (.inr hl)
    · by_cases hn : K i = .no
      · by_cases hy : ob = some i
        · have := (hzK i hy).2 (by omega); rw [hn] at this; cases this
        · rw [if_neg hy] at hi
          by_cases hx : L i ≠ .no
          · exact .inr (.inl hx)
          · rw [if_neg hx] at hi; exact absurd hn hi
      · exact .inl hn
end
end Go.Proofs.Ytplijfgjdlghbaa

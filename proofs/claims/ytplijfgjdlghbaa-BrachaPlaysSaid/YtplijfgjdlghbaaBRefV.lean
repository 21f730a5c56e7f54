/-
  A vote more: the facts of its two appends.
-/
import Derived.Test.YtplijfgjdlghbaaBRefM
import Derived.Test.YtplijfgjdlghbaaBRec
import Derived.Test.YtplijfgjdlghbaaStr
import Derived.BigQuiet
namespace Go.Pl
open Go.RowKit
section
variable {P : Program} {ops : Array Oper} {rest : List Oper} {o : Oper} {a : Act}
/-- A cell, loaded under a guard that holds. -/
theorem wpq_load_oneg {C : World → Prop} {R : Act → Prop} (hgd : Region.wanted o (yielded ops a.tmps) = true) (ty : TypeId) (x : Operand) (hop : o.op = .load ty x) (p : Addr) (hx : a.eval x = .pointer (some p)) (v : Value) (hc : ∀ w, C w → w.cell? p = some v)
    (d : TypeDesc) (hu : P.underlying ty = some d) (hd : d.isRow = false)
    (h : wpQuiet P ops C R rest (a.put o.dst v)) : wpQuiet P ops C R (o :: rest) a :=
  BigFrame.wpQuiet_want hgd fun K hK => ⟨v, fun w hw => by
    have hagg : (isAgg ty).run P w = .ok false w := by
      unfold isAgg
      rw [Sem.run_bind, run_underlying hu w]
      cases d <;> simp_all
    have hl : (loadVar ty p).run P w = .ok v w := by
      simp [loadVar, Sem.run_bind, hagg, hc w hw]
    unfold Oper.quietAt execOp
    simp only [hop, hx, Instr.loadAt, Instr.sureAddr, Sem.run_bind, Sem.run_pure, Result.andThen_ok, hl]
    exact ⟨rfl, rfl⟩, hK _ h⟩
end
/-- Nothing below B is touched. -/
def AbB (B : Nat) (w w' : World) : Prop := Below B w w'
theorem AbB.refl (B : Nat) (w : World) : AbB B w w := Below.refl _ _
theorem AbB.trans (B : Nat) (a b c : World) (h : AbB B a b) (k : AbB B b c) : AbB B a c := Below.trans h k
theorem vcs_one : ∀ v : Bra.Votes, ∀ u ∈ vcs v, u.oneCell' = true
  | [], u, h => by cases h
  | x :: r, u, h => by
    simp only [vcs, List.mem_cons] at h
    rcases h with rfl | rfl | h
    · rfl
    · rfl
    · exact vcs_one r u h
theorem made0 (w : World) (e : TypeId) (sz B : Nat) (hB : B ≤ w.heap.size) : (w.alloc (.cells #[] e)).ownsRow B e sz (.slice (some ⟨w.heap.size, 0, none⟩) 0 0) 0 [] :=
  ⟨by simp, .inr ⟨w.heap.size, 0, #[], rfl, hB, heap_alloc_new w _, Nat.le_refl _, by simp [maxLen], by simp, by simp⟩⟩
theorem app_below {B : Nat} {w w' : World} {row : Option Nat} (hg : w.grownBy w' row) (hr : ∀ k, row = some k → B ≤ k) (hB : B ≤ w.heap.size) : Below B w w' :=
  ((Fr.refl (fun i => B ≤ i) w).grown hg (fun k e => .inl (hr k e))).below (fun _ h => h) hB
theorem app_row {w w' : World} {row : Option Nat} (hg : w.grownBy w' row) {g sz : Nat} {A : Option Addr} {n c : Nat} {vs : List Value} (h : Row w (fun i => i = g) sz A n c vs) (hn : row ≠ some g) : Row w' (fun i => i = g) sz A n c vs :=
  h.fr ((Fr.refl (fun i => row = some i) w).grown hg (fun k e => .inl e)) (fun i e h => hn (by rw [h, e]))
theorem voted_end {w d4 wx : World} {T B k : Nat} {t e : TypeId} {cs : Array Value} {vs : Bra.Votes} {x : Int × List UInt8} {A : Option Addr} {n c : Nat} (hT : Blk w T t cs) (hTB : T < B) (hb : Below B w d4) (ho : d4.ownsRow B e 2 (.slice A n c) n (vcs vs ++ [.int .i64 x.1, .string ⟨x.2.toArray⟩])) (hx : d4.setCell ⟨T, k, none⟩ (.slice A n c) = wx) :
    Row wx (fun i => B ≤ i) 2 A n c (vcs (vs ++ [x])) ∧ Blk wx T t (cs.setIfInBounds k (.slice A n c)) ∧ Fr (fun i => i = T ∨ B ≤ i) w wx := by
  have f1 : Fr (fun i => i = T) d4 (d4.setCell ⟨T, k, none⟩ (.slice A n c)) := (Fr.refl (fun i => i = T) d4).setCell (p := ⟨T, k, none⟩) (.inl rfl) _
  have hlt := own_lt ho
  rw [hx] at f1
  refine ⟨?_, ?_, ?_⟩
  · rw [vcs_snoc]
    exact ((own_row ho).fr f1 (fun i e h => by have := (hlt i e).1; omega)).mono (fun i _ e => (hlt i e).1)
  · rw [← hx]
    exact Blk.set_ ((hb.block T hTB).trans hT) k _
  · have f0 : Fr (fun i => i = T ∨ B ≤ i) w d4 := ⟨hb.os, hb.tape, hb.output, hb.size, fun k hk hn => hb.block k (by have : ¬ B ≤ k := fun h => hn (.inr h); omega)⟩
    exact f0.trans f1 (fun i h => .inl (.inl h))
theorem step2_no {n : Nat} {c : Bra.Cast} {src dt o k : Int} {bs : List UInt8} {v : Bra.Votes} {x f : Nat} (hv : Bra.voted c.echoes src = false) (he : c.echoes ++ [(src, bs)] = v) (hx : Bra.count v bs = x) (hf : Bra.faults n = f) (hs : (decide (n + f < 2 * x) && !c.readied) = false) :
    Bra.step n c ⟨2, src, dt, o, k, bs⟩ = ({ c with echoes := v }, false, false) := by
  subst he hx hf
  unfold Bra.step
  rw [if_neg (show ¬ ((2:Int) = 1) by decide), if_pos rfl, hv, if_neg (by decide)]
  dsimp only
  rw [hs, Bool.or_false]
theorem step2_yes {n : Nat} {c : Bra.Cast} {src dt o k : Int} {bs : List UInt8} {v : Bra.Votes} {x f : Nat} (hv : Bra.voted c.echoes src = false) (he : c.echoes ++ [(src, bs)] = v) (hx : Bra.count v bs = x) (hf : Bra.faults n = f) (hs : (decide (n + f < 2 * x) && !c.readied) = true) :
    Bra.step n c ⟨2, src, dt, o, k, bs⟩ = ({ c with echoes := v, readied := true }, true, false) := by
  subst he hx hf
  unfold Bra.step
  rw [if_neg (show ¬ ((2:Int) = 1) by decide), if_pos rfl, hv, if_neg (by decide)]
  dsimp only
  rw [hs, Bool.or_true]
theorem step3 {n : Nat} {c : Bra.Cast} {src dt o k : Int} {bs : List UInt8} {v : Bra.Votes} {x f : Nat} {s d : Bool} (hv : Bra.voted c.readies src = false) (he : c.readies ++ [(src, bs)] = v) (hx : Bra.count v bs = x) (hf : Bra.faults n = f) (hs : (decide (f + 1 ≤ x) && !c.readied) = s) (hd : (decide (2 * f + 1 ≤ x) && !c.delivered) = d) :
    Bra.step n c ⟨3, src, dt, o, k, bs⟩ = ({ c with readies := v, readied := c.readied || s, delivered := c.delivered || d }, s, d) := by
  subst he hx hf hs hd
  unfold Bra.step
  rw [if_neg (show ¬ ((3:Int) = 1) by decide), if_neg (show ¬ ((3:Int) = 2) by decide), hv, if_neg (by decide)]
end Go.Pl
namespace Go.Proofs.Ytplijfgjdlghbaa
open Go.RowKit Go.Pl
theorem infoVote : (Try.prog.info? 91).map (fun i => (i.zero, i.size, i.bytes)) = some (some (.agg #[.int .i64 0, .string ⟨#[]⟩]), 2, 24) := by kernel_rfl
/-- Behind the append of a delivery. -/
theorem deld {wb w1 w2 w3 w4 : World} {L : Nat → Lab} {G kk : Nat} {p : Bra.Proc} {CA DA A5 : Option Addr} {cn cc dn dc c5 cd : Nat} {cv dv : List Value} {o k : Int} {bs : List UInt8} {et : TypeId}
    (hI : RefIn wb L G p kk CA cn cc cv DA dn dc dv) (hk : p.done.length + 1 ≤ kk) (hd : Dig w1 wb.heap.size et cd bs) (f1 : Fr (fun _ => False) wb w1) (f2 : Fr (fun _ => False) w1 w2) (hg : w2.grownBy w3 (Value.slice DA dn dc).ownBlock)
    (ho : w3.ownsRow 0 56 3 (.slice A5 (dn + 1) c5) (dn + 1) (dv ++ [.int .i64 o, .int .i64 k, .slice (some ⟨wb.heap.size, 0, none⟩) bs.length cd]))
    (hz : (Value.slice A5 (dn + 1) c5).ownBlock = (Value.slice DA dn dc).ownBlock ∨ (Value.slice A5 (dn + 1) c5).ownBlock = some w2.heap.size) (hw4 : w3.setCell ⟨G, 4, none⟩ (.slice A5 (dn + 1) c5) = w4) :
    ∃ L3, RefIn w4 L3 G { p with done := p.done ++ [⟨o, k, bs⟩] } kk CA cn cc cv A5 (dn + 1) c5 (dv ++ [.int .i64 o, .int .i64 k, .slice (some ⟨wb.heap.size, 0, none⟩) bs.length cd]) ∧ (∀ i, i < wb.heap.size → L3 i = L i) ∧ (∀ i, L i ≠ .no → L3 i = L i) ∧ Fr (fun i => (Value.slice DA dn dc).ownBlock = some i ∨ i = G) wb w4 := by
  have hno : ∀ i, wb.heap.size ≤ i → L i = .no := fun i h => Classical.byContradiction fun hx => by have := hI.labs i hx; omega
  have hdl := hd.lt
  have h12 := f2.size
  obtain ⟨V, hV⟩ : ∃ V, (Value.slice DA dn dc).ownBlock = V := ⟨_, rfl⟩
  have hVs : ∀ g, V = some g → L g = .dels := fun g e => hI.dlab g (by rw [hV, e])
  have hVl : ∀ g, V = some g → g < wb.heap.size := fun g e => hI.labs g (by rw [hVs g e]; simp)
  rw [hV] at hg hz ⊢
  have f3 : Fr (fun i => V = some i) wb w3 := ((f1.trans f2 (fun _ h => h.elim)).mono (F := fun i => V = some i) (fun _ h => h.elim)).grown hg (fun g h => .inl h)
  have hVG : V ≠ some G := fun e => by have h1 := hVs G e; rw [hI.lab] at h1; cases h1
  have hG4 := (hI.blk.fr f3 hVG).set_ 4 (.slice A5 (dn + 1) c5)
  have f34 : Fr (fun i => i = G) w3 (w3.setCell ⟨G, 4, none⟩ (.slice A5 (dn + 1) c5)) := (Fr.refl (fun i => i = G) w3).setCell (p := ⟨G, 4, none⟩) (.inl rfl) _
  rw [hw4] at hG4 f34
  have f4 : Fr (fun i => V = some i ∨ i = G) wb w4 := (f3.mono (F := fun i => V = some i ∨ i = G) (fun _ h => .inl (.inl h))).trans f34 (fun _ h => .inl (.inr h))
  obtain ⟨ob, hob⟩ : ∃ ob, (Value.slice A5 (dn + 1) c5).ownBlock = ob := ⟨_, rfl⟩
  rw [hob] at hz
  have obs : ∀ i, ob = some i → i < wb.heap.size → L i = .dels := fun i e hn => by
    rcases hz with h | h
    · exact hVs i (by rw [← h, e])
    · rw [h] at e
      have e : w2.heap.size = i := by simpa using e
      have := f1.size; omega
  have hGl := hI.labs G (by rw [hI.lab]; simp)
  have obG : ob ≠ some G := fun e => by have := obs G e hGl; rw [hI.lab] at this; cases this
  have obD : ob ≠ some wb.heap.size := fun e => by
    rcases hz with h | h
    · have := hVl wb.heap.size (by rw [← h, e]); omega
    · rw [h] at e
      have e : w2.heap.size = wb.heap.size := by simpa using e
      omega
  have hdn := hI.dnLen
  have f14 : Fr (fun i => V = some i ∨ i = G) w1 w4 := ((f2.mono (F := fun i => V = some i) (fun _ h => h.elim)).grown hg (fun g h => .inl h) |>.mono (F := fun i => V = some i ∨ i = G) (fun _ h => .inl (.inl h))).trans f34 (fun _ h => .inl (.inr h))
  have hsl : Rd w4 (fun i => i = wb.heap.size) (some ⟨wb.heap.size, 0, none⟩) bs.length cd bs := (hd.fr f14 (fun h => by
    rcases h with h | h
    · have := hVl _ h; omega
    · omega)).rd
  refine ⟨fun i => if ob = some i then Lab.dels else if i = wb.heap.size then Lab.byt else L i, hI.del (d := ⟨o, k, bs⟩) hk (by rw [hV]; exact f4) hG4 (own_fr ho f34 (fun g e h => obG (by rw [← hob, e, h]))) ⟨_, _, _, rfl, hsl.mono (fun i _ h => ?_)⟩ (fun i hi => ?_) (fun i hi => ?_) (fun g e => ?_), fun i hi => ?_, fun i hi => ?_, f4⟩
  · try dsimp only
    rw [h, if_neg obD, if_pos rfl]
  · by_cases hx : ob = some i
    · exact Nat.lt_of_lt_of_le (own_lt ho i (by rw [hob, hx])).2 f34.size
    · try dsimp only at hi
      rw [if_neg hx] at hi
      by_cases hy : i = wb.heap.size
      · rw [hy]; have := f14.size; omega
      · rw [if_neg hy] at hi
        exact Nat.lt_of_lt_of_le (hI.labs i hi) f4.size
  · try dsimp only
    by_cases hx : ob = some i
    · rw [if_pos hx, obs i hx (hI.labs i hi)]
    · rw [if_neg hx, if_neg (fun e => hi (hno i (by omega)))]
  · try dsimp only
    rw [if_pos (by rw [← hob]; exact e)]
  · try dsimp only
    by_cases hx : ob = some i
    · rw [if_pos hx, obs i hx hi]
    · rw [if_neg hx, if_neg (by omega)]
  · try dsimp only
    by_cases hx : ob = some i
    · rw [if_pos hx, obs i hx (hI.labs i hi)]
    · rw [if_neg hx, if_neg (fun e => hi (hno i (by omega)))]
end Go.Proofs.Ytplijfgjdlghbaa

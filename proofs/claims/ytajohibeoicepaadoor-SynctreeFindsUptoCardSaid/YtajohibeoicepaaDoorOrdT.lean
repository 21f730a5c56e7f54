/-
  A region that draws its order, walked by a plan that parts where two operations that make memory may come first.
-/
import Derived.Test.YtajohibeoicepaaDoorOrdR
namespace Go.Pl
open Go.RowKit
/-- What only reads, then one that may do more, or one of two. -/
inductive Sch where
  | last (fs : List Nat)
  | one (fs : List Nat) (t : Nat) (k : Sch)
  | two (fs : List Nat) (t1 : Nat) (k1 : Sch) (t2 : Nat) (k2 : Sch)
def Sch.tails : Sch → List Nat
  | .last _ => []
  | .one _ t k => t :: k.tails
  | .two _ t1 k1 t2 k2 => t1 :: t2 :: (k1.tails ++ k2.tails)
def Sch.len : Sch → Nat
  | .last fs => fs.length
  | .one fs _ k => fs.length + (k.len + 1)
  | .two fs _ k1 _ _ => fs.length + (k1.len + 1)
section
variable {P : Program} {ops : Array Oper} {tl : List Nat} {Q : Exit → Act → World → Prop} {md : Region.Mode} {R : World → World → Prop}
def wpSch (P : Program) (ops : Array Oper) (R : World → World → Prop) (Q : Exit → Act → World → Prop) (l : List Oper) : Sch → Act → World → Prop
  | .last fs, a, w => wpQuiet P ops (R w) (fun a1 => Q .normal a1 w) (ordPick l fs) a
  | .one fs t k, a, w => wpQuiet P ops (R w) (fun a1 => wpList P ops (onwardR R w Q (wpSch P ops R Q l k)) (ordPick l [t]) a1 w) (ordPick l fs) a
  | .two fs t1 k1 t2 k2, a, w => wpQuiet P ops (R w) (fun a1 => wpList P ops (onwardR R w Q (wpSch P ops R Q l k1)) (ordPick l [t1]) a1 w ∧ wpList P ops (onwardR R w Q (wpSch P ops R Q l k2)) (ordPick l [t2]) a1 w) (ordPick l fs) a
def schB (md : Region.Mode) (ops : Array Oper) (M : List Nat) (tl : List Nat) : Sch → Array Bool → Bool
  | .last fs, L => (floatsB md ops M tl fs L).1 && (Region.ready md ops (floatsB md ops M tl fs L).2 == [])
  | .one fs t k, L => (floatsB md ops M tl fs L).1 && tl.contains t && (Region.ready md ops (floatsB md ops M tl fs L).2 == [t]) && schB md ops M tl k ((floatsB md ops M tl fs L).2.setIfInBounds t true)
  | .two fs t1 k1 t2 k2, L => (floatsB md ops M tl fs L).1 && tl.contains t1 && tl.contains t2 && (k1.len == k2.len) && (Region.ready md ops (floatsB md ops M tl fs L).2 == [t1, t2]) &&
      schB md ops M tl k1 ((floatsB md ops M tl fs L).2.setIfInBounds t1 true) && schB md ops M tl k2 ((floatsB md ops M tl fs L).2.setIfInBounds t2 true)
def schR (md : Region.Mode) (ops : Array Oper) (s : Sch) : Bool :=
  Region.noSelect ops && (s.len == ops.size) && schB md ops (masks md ops) s.tails s (Array.replicate ops.size false)
theorem tail_step {o : Oper} {a : Act} {w : World} {j : Nat} {K next : Act → World → Prop} (ho : ops[j]? = some o) (h1 : tl.contains j = true) (hg : wpList P ops (onwardR R w Q next) [o] a w) (ih : ∀ a w, next a w → K a w) : stepR P ops tl R Q j K a w := by
  refine ⟨o, ho, ?_⟩
  simp only [wpList] at hg
  by_cases hw : Region.wanted o (yielded ops a.tmps) = true
  · rw [if_pos hw] at hg ⊢
    rw [if_pos h1]
    exact hg.imp (fun h => Oper.wp_mono (fun a2 w2 hh => ⟨hh.1, ih a2 w2 hh.2⟩) (wp_onward h)) (fun h => ⟨h.1, h.2⟩)
  · rw [if_neg hw] at hg ⊢
    exact ih _ _ hg.2
theorem sch_any (hrf : ∀ w, R w w) (htr : ∀ a b c, R a b → R b c → R a c) (hsel : ∀ (j : Nat) (o : Oper) cs b, ops[j]? = some o → o.op ≠ .select cs b) (hQ : ∀ c a d v w, Q (.panic c) (Act.put a d v) w → Q (.panic c) a w) :
    ∀ (s : Sch) (L : Array Bool) (a : Act) (w : World), Down md ops L → schB md ops (masks md ops) tl s L = true → wpSch P ops R Q ops.toList s a w → anyR P md ops tl R Q s.len L a w
  | .last fs, L, a, w, hdn, hB, h => by
    simp only [schB, Bool.and_eq_true, beq_iff_eq] at hB
    exact floats_any (n := 0) hrf htr hsel hQ fs L a hdn hB.1 h fun a1 _ hg => ⟨hB.2, hg⟩
  | .one fs t k, L, a, w, hdn, hB, h => by
    simp only [schB, Bool.and_eq_true, beq_iff_eq] at hB
    obtain ⟨⟨⟨h0, h1⟩, h2⟩, h3⟩ := hB
    refine floats_any (n := k.len + 1) hrf htr hsel hQ fs L a hdn h0 h fun a1 hd1 hg => ?_
    refine ⟨fun e => (by rw [h2] at e; cases e), fun j hj => ?_⟩
    have hjr := hj
    rw [h2] at hj
    obtain rfl : j = t := by simpa using hj
    obtain ⟨_, o, ho, _⟩ := mem_ready.1 hjr
    have hp : ordPick ops.toList [j] = [o] := by simp [ordPick, ho]
    rw [hp] at hg
    exact tail_step ho h1 hg fun a2 w2 => sch_any hrf htr hsel hQ k _ a2 w2 (down_set hd1 hjr) h3
  | .two fs t1 k1 t2 k2, L, a, w, hdn, hB, h => by
    simp only [schB, Bool.and_eq_true, beq_iff_eq] at hB
    obtain ⟨⟨⟨⟨⟨⟨h0, h1⟩, h1'⟩, hln⟩, h2⟩, h3⟩, h4⟩ := hB
    refine floats_any (n := k1.len + 1) hrf htr hsel hQ fs L a hdn h0 h fun a1 hd1 hg => ?_
    refine ⟨fun e => (by rw [h2] at e; cases e), fun j hj => ?_⟩
    have hjr := hj
    rw [h2] at hj
    obtain ⟨_, o, ho, _⟩ := mem_ready.1 hjr
    have hp : ordPick ops.toList [j] = [o] := by simp [ordPick, ho]
    have hj' : j = t1 ∨ j = t2 := by simpa using hj
    rcases hj' with rfl | rfl
    · have hg := hg.1
      rw [hp] at hg
      exact tail_step ho h1 hg fun a2 w2 => sch_any hrf htr hsel hQ k1 _ a2 w2 (down_set hd1 hjr) h3
    · have hg := hg.2
      rw [hp] at hg
      rw [hln]
      exact tail_step ho h1' hg fun a2 w2 => sch_any hrf htr hsel hQ k2 _ a2 w2 (down_set hd1 hjr) h4
end
theorem wp_region_sch {P : Program} {id : Nat} {Q : Exit → Act → World → Prop} {a : Act} {w : World} {l : List Oper} (R : World → World → Prop) (hrf : ∀ w, R w w) (htr : ∀ a b c, R a b → R b c → R a c) (s : Sch) (hm : P.follows .mixedOrders = true) (hB : schR .any l.toArray s = true)
    (hQ' : ∀ c a (d : Tmp) v w, Q (.panic c) (Act.put a (some d) v) w → Q (.panic c) a w)
    (h : wpSch P l.toArray R Q l s a w.drew) : (Code.region id l.toArray true).wp P Q a w := by
  have hQ : ∀ c a d v w, Q (.panic c) (Act.put a d v) w → Q (.panic c) a w := fun c a d v w h => by
    cases d with
    | none => exact h
    | some d => exact hQ' c a d v w h
  simp only [schR, Bool.and_eq_true, beq_iff_eq] at hB
  obtain ⟨⟨hs, hn⟩, hB⟩ := hB
  refine wp_region_any hm (anyR_any _ _ _ _ (tl := s.tails) (R := R) ?_)
  have H := sch_any (P := P) (md := .any) (tl := s.tails) (Q := Q) (R := R) hrf htr (Region.noSelect_spec hs) hQ s (Array.replicate l.toArray.size false) a w.drew (fun j oj _ hj => ?_) hB h
  · rw [hn] at H
    exact H
  · exfalso
    rw [Array.getD_eq_getD_getElem?] at hj
    simp [Array.getElem?_replicate] at hj
    split at hj <;> simp at hj
end Go.Pl

/-
  A proof while it grows: an item in a block, its path a row of the call's own.
-/
import Derived.Test.YthoaenpbmmjokaaDoorObTree
namespace Ob
theorem rootH_len : ∀ {xs : List It}, Asc xs → (rootH xs).length = 32
  | [], _ => by rw [rootH_nil]; exact Sha.length_sha _
  | [x], _ => by rw [rootH_one]; exact Sha.length_sha _
  | x :: y :: r, h => by
    obtain ⟨x0, x1, t, _, _, _, _, ht, h0, h1⟩ := h.parts (by simp)
    rw [rootH_two (by simp) ht h0 h1]
    exact Sha.length_sha _
/-- The steps of a key's proof, and the items that are left. -/
def follow (key : Key) (xs : List It) : List (List UInt8) × List It :=
  if _h2 : 2 ≤ xs.length then
    if _h : 0 < zeros (top xs) xs ∧ zeros (top xs) xs < xs.length then
      if bitN key (top xs).toNat = 1 then
        ((num (top xs).toNat ++ rootH (xs.take (zeros (top xs) xs))) :: (follow key (xs.drop (zeros (top xs) xs))).1, (follow key (xs.drop (zeros (top xs) xs))).2)
      else ((num (top xs).toNat ++ rootH (xs.drop (zeros (top xs) xs))) :: (follow key (xs.take (zeros (top xs) xs))).1, (follow key (xs.take (zeros (top xs) xs))).2)
    else ([], xs)
  else ([], xs)
termination_by xs.length
decreasing_by
  all_goals (first | (simp only [List.length_drop]; omega) | (simp only [List.length_take]; omega))
theorem follow_small {key : Key} {xs : List It} (h : xs.length < 2) : follow key xs = ([], xs) := by
  rw [follow, dif_neg (by omega)]
theorem follow_one {key : Key} {xs : List It} {t : Nat} (h2 : 2 ≤ xs.length) (ht : top xs = t) (h0 : 0 < zeros t xs) (h1 : zeros t xs < xs.length) (hb : bitN key t = 1) :
    follow key xs = ((num t ++ rootH (xs.take (zeros t xs))) :: (follow key (xs.drop (zeros t xs))).1, (follow key (xs.drop (zeros t xs))).2) := by
  rw [follow, dif_pos h2, ht, dif_pos ⟨h0, h1⟩, Int.toNat_natCast, if_pos hb]
theorem follow_zero {key : Key} {xs : List It} {t : Nat} (h2 : 2 ≤ xs.length) (ht : top xs = t) (h0 : 0 < zeros t xs) (h1 : zeros t xs < xs.length) (hb : ¬ bitN key t = 1) :
    follow key xs = ((num t ++ rootH (xs.drop (zeros t xs))) :: (follow key (xs.take (zeros t xs))).1, (follow key (xs.take (zeros t xs))).2) := by
  rw [follow, dif_pos h2, ht, dif_pos ⟨h0, h1⟩, Int.toNat_natCast, if_neg hb]
/-- The proof of a key. -/
def proveI (key : Key) (xs : List It) : It :=
  match (follow key xs).2 with
  | [] => ⟨key, false, [], (follow key xs).1⟩
  | x :: _ => if x.key = key then ⟨key, true, x.content, (follow key xs).1⟩ else ⟨key, false, [], (follow key xs).1 ++ [x.key ++ Sha.sha x.content]⟩
end Ob
namespace Go.Pl
open Go.RowKit
/-- The item in block G with the path PV, which reads as P; the result's block R. -/
structure Acc (w : World) (ti tb : TypeId) (B G R : Nat) (key : List UInt8) (PV : Value) (P : List (List UInt8)) (vs : List Value) : Prop where
  g : Blk w G ti #[.string ⟨key.toArray⟩, .bool false, .slice none 0 0, PV]
  r : Blk w R ti #[.string ⟨#[]⟩, .bool false, .slice none 0 0, .slice none 0 0]
  own : w.ownsRow B tb 1 PV P.length vs
  els : SlsIs w (fun i => B ≤ i ∧ i ≠ G ∧ i ≠ R ∧ PV.ownBlock ≠ some i) P vs
  ne : G ≠ R
  bg : B ≤ G
  br : B ≤ R
  ty : ti ≠ tb
section
variable {w w' : World} {ti tb : TypeId} {B G R : Nat} {key : List UInt8} {PV : Value} {P : List (List UInt8)} {vs : List Value}
theorem Acc.up (h : Acc w ti tb B G R key PV P vs) (hb : Below w.heap.size w w') : Acc w' ti tb B G R key PV P vs :=
  ⟨h.g.below hb h.g.lt, h.r.below hb h.r.lt, own_fr h.own (Fr.of_below (F := fun _ => False) hb) (fun _ _ h => h), h.els.fr (Fr.of_below (F := fun _ => False) hb) (fun _ _ h => h), h.ne, h.bg, h.br, h.ty⟩
theorem Acc.notG (h : Acc w ti tb B G R key PV P vs) : PV.ownBlock ≠ some G := by
  intro e
  obtain ⟨hl, ho⟩ := h.own
  rcases ho with ⟨he, h0⟩ | ⟨g, cap, cur, he, hb, hg, _⟩
  · rw [he] at e; cases e
  · rw [he] at e
    have : g = G := by simpa [Value.ownBlock] using e
    subst this
    have h1 := h.g
    unfold Blk at h1
    rw [hg] at h1
    cases h1
    exact h.ty rfl
theorem Acc.notR (h : Acc w ti tb B G R key PV P vs) : PV.ownBlock ≠ some R := by
  intro e
  obtain ⟨hl, ho⟩ := h.own
  rcases ho with ⟨he, h0⟩ | ⟨g, cap, cur, he, hb, hg, _⟩
  · rw [he] at e; cases e
  · rw [he] at e
    have : g = R := by simpa [Value.ownBlock] using e
    subst this
    have h1 := h.r
    unfold Blk at h1
    rw [hg] at h1
    cases h1
    exact h.ty rfl
/-- Behind a step's append and store. -/
theorem Acc.step (h : Acc w ti tb B G R key PV P vs) {sv : Value} {st : List UInt8} {o : Obj} (hs : SlIs w (fun i => B ≤ i ∧ i ≠ G ∧ i ≠ R ∧ PV.ownBlock ≠ some i) sv st) {A : Option Addr} {c : Nat} {w2 : World}
    (hown : w2.ownsRow B tb 1 (.slice A (P.length + 1) c) (P.length + 1) (vs ++ [sv])) (hg : (w.alloc o).grownBy w2 PV.ownBlock) (hz : (Value.slice A (P.length + 1) c).ownBlock = PV.ownBlock ∨ (Value.slice A (P.length + 1) c).ownBlock = some (w.heap.size + 1)) :
    Acc (w2.setCell ⟨G, 3, none⟩ (.slice A (P.length + 1) c)) ti tb B G R key (.slice A (P.length + 1) c) (P ++ [st]) (vs ++ [sv]) ∧ Fr (fun i => i = G ∨ PV.ownBlock = some i) w (w2.setCell ⟨G, 3, none⟩ (.slice A (P.length + 1) c)) := by
  have hf1 : Fr (fun i => PV.ownBlock = some i) w w2 := ((Fr.refl _ w).alloc o).grown hg (fun k e => .inl e)
  have hf2 : Fr (fun i => i = G ∨ PV.ownBlock = some i) w (w2.setCell ⟨G, 3, none⟩ (.slice A (P.length + 1) c)) := (hf1.mono (fun i e => .inl (.inr e))).setCell (.inl (.inl rfl)) _
  have hG2 : Blk w2 G ti _ := h.g.fr hf1 h.notG
  have hR2 : Blk w2 R ti _ := h.r.fr hf1 h.notR
  have hgl := h.g.lt
  have hrl := h.r.lt
  have hne : ∀ i, i < w.heap.size → PV.ownBlock ≠ some i → (Value.slice A (P.length + 1) c).ownBlock ≠ some i := fun i hi hn e => by
    rcases hz with hz | hz
    · exact hn (hz ▸ e)
    · rw [hz] at e
      have : w.heap.size + 1 = i := Option.some.inj e
      omega
  refine ⟨⟨?_, hR2.far (fun e => h.ne e.symm) _, ?_, ?_, h.ne, h.bg, h.br, h.ty⟩, hf2⟩
  · have := hG2.set_ 3 (.slice A (P.length + 1) c)
    simpa using this
  · have hl : (P ++ [st]).length = P.length + 1 := by simp
    rw [hl]
    exact own_fr hown ((Fr.refl (fun i => i = G) w2).setCell (.inl rfl) _) (fun g hg e => hne G hgl h.notG (by rw [hg, e]))
  · refine SlsIs.append ?_ (SlsIs.one ?_)
    · exact (h.els.mono (T := fun i => (B ≤ i ∧ i ≠ G ∧ i ≠ R ∧ PV.ownBlock ≠ some i) ∧ i < w.heap.size) (fun i hi k => ⟨k, hi⟩)).fr hf2 (fun i k e => by rcases e with e | e; exact k.1.2.1 e; exact k.1.2.2.2 e) |>.mono (fun i _ k => ⟨k.1.1, k.1.2.1, k.1.2.2.1, hne i k.2 k.1.2.2.2⟩)
    · exact (hs.mono (T := fun i => (B ≤ i ∧ i ≠ G ∧ i ≠ R ∧ PV.ownBlock ≠ some i) ∧ i < w.heap.size) (fun i hi k => ⟨k, hi⟩)).fr hf2 (fun i k e => by rcases e with e | e; exact k.1.2.1 e; exact k.1.2.2.2 e) |>.mono (fun i _ k => ⟨k.1.1, k.1.2.1, k.1.2.2.1, hne i k.2 k.1.2.2.2⟩)
/-- The slots of PV. -/
theorem Acc.shape (h : Acc w ti tb B G R key PV P vs) : ∃ A c, PV = .slice A P.length c := by
  obtain ⟨hl, ho⟩ := h.own
  rcases ho with ⟨he, h0⟩ | ⟨g, cap, cur, he, _⟩
  · exact ⟨none, 0, by rw [he, h0]⟩
  · exact ⟨_, _, he⟩
theorem Acc.path (h : Acc w ti tb B G R key PV P vs) : PathIs w (fun i => B ≤ i ∧ i ≠ G ∧ i ≠ R) PV P := by
  obtain ⟨A, c, rfl⟩ := h.shape
  refine ⟨_, _, _, rfl, vs, (own_row h.own).mono (fun i _ e => ⟨(own_lt h.own i e).1, fun e2 => h.notG (e2 ▸ e), fun e2 => h.notR (e2 ▸ e)⟩), h.els.mono (fun i _ k => ⟨k.1, k.2.1, k.2.2.1⟩)⟩
end
end Go.Pl

/-
  A process of package bracha in memory: what stands in which block. A function labels the blocks, so that two blocks of different labels are two.
-/
import Derived.Test.YtplijfgjdlghbaaBAt
namespace Go.Pl
open Go.RowKit
/-- What a block of a process is. -/
inductive Lab where
  | no | proc | states | st (j : Nat) | ech (j : Nat) | rdy (j : Nat) | byt | dels
deriving DecidableEq
def Fits (bs : List UInt8) : Prop := bs.length ≤ 140737488355328
/-- l are the entries of the votes. -/
def VotesIs (w : World) (S : Nat → Prop) : Bra.Votes → List (Value × Value) → Prop
  | [], l => l = []
  | x :: r, l => ∃ v l', l = (.int .i64 x.1, v) :: l' ∧ (0 ≤ x.1 ∧ x.1 < 64) ∧ SlIs w S v x.2 ∧ VotesIs w S r l'
section
variable {w w' : World} {S T : Nat → Prop}
theorem VotesIs.fr {F : Nat → Prop} (hf : Fr F w w') (hF : ∀ i, S i → ¬ F i) : ∀ {v : Bra.Votes} {l : List (Value × Value)}, VotesIs w S v l → VotesIs w' S v l
  | [], _, h => h
  | _ :: _, _, ⟨s, r, h1, h0, h2, h3⟩ => ⟨s, r, h1, h0, h2.fr hf hF, h3.fr hf hF⟩
theorem VotesIs.mono (hST : ∀ i, i < w.heap.size → S i → T i) : ∀ {v : Bra.Votes} {l : List (Value × Value)}, VotesIs w S v l → VotesIs w T v l
  | [], _, h => h
  | _ :: _, _, ⟨s, r, h1, h0, h2, h3⟩ => ⟨s, r, h1, h0, h2.mono hST, h3.mono hST⟩
theorem VotesIs.snoc {i : Int} {bs : List UInt8} {s : Value} (hi : 0 ≤ i ∧ i < 64) (hs : SlIs w S s bs) : ∀ {v : Bra.Votes} {l : List (Value × Value)}, VotesIs w S v l → VotesIs w S (v ++ [(i, bs)]) (l ++ [(.int .i64 i, s)])
  | [], _, h => by cases h; exact ⟨s, [], rfl, hi, hs, rfl⟩
  | _ :: _, _, ⟨s', r, h1, h0, h2, h3⟩ => ⟨s', r ++ _, by rw [h1, List.cons_append], h0, h2, h3.snoc hi hs⟩
theorem VotesIs.keys {P : Program} {k : TypeId} (hk : P.underlying k = some (.int .i64)) : ∀ {v : Bra.Votes} {l : List (Value × Value)}, VotesIs w S v l → ∀ p ∈ l, ∃ x, keyOf P k p.1 = some x
  | [], _, h, p, hp => by cases h; cases hp
  | x :: _, _, ⟨s, r, h1, h0, h2, h3⟩, p, hp => by
    rw [h1] at hp
    rcases List.mem_cons.1 hp with rfl | hp
    · exact ⟨_, Maps.keyOf_int_mk hk (WalkArith.wf_i64 (by omega))⟩
    · exact h3.keys hk p hp
theorem VotesIs.has : ∀ {v : Bra.Votes} {l : List (Value × Value)} {i : Int}, VotesIs w S v l → Bra.voted v i = true → ∃ p ∈ l, p.1 = .int .i64 i
  | [], _, _, _, hv => by simp [Bra.voted] at hv
  | x :: r, _, i, ⟨s, l', h1, h0, h2, h3⟩, hv => by
    by_cases hx : x.1 = i
    · exact ⟨_, by rw [h1]; exact List.mem_cons_self, by rw [hx]⟩
    · have : Bra.voted r i = true := by simpa [Bra.voted, hx] using hv
      obtain ⟨p, hp, e⟩ := h3.has this
      exact ⟨p, by rw [h1]; exact List.mem_cons_of_mem _ hp, e⟩
theorem VotesIs.hasnt : ∀ {v : Bra.Votes} {l : List (Value × Value)} {i : Int}, VotesIs w S v l → Bra.voted v i = false → ∀ p ∈ l, p.1 ≠ .int .i64 i
  | [], _, _, h, _, p, hp => by cases h; cases hp
  | x :: r, _, i, ⟨s, l', h1, h0, h2, h3⟩, hv, p, hp => by
    have hv' : (x.1 == i) = false ∧ Bra.voted r i = false := by simpa [Bra.voted] using hv
    rw [h1] at hp
    rcases List.mem_cons.1 hp with rfl | hp
    · intro e
      have : x.1 = i := by simpa using e
      simp [this] at hv'
    · exact h3.hasnt hv'.2 p hp
/-- How many of the entries hold these bytes. -/
theorem VotesIs.mem : ∀ {v : Bra.Votes} {l : List (Value × Value)}, VotesIs w S v l → ∀ p ∈ l, ∃ bs, SlIs w S p.2 bs
  | [], _, h, p, hp => by cases h; cases hp
  | x :: r, _, ⟨s, l', h1, h0, h2, h3⟩, p, hp => by
    rw [h1] at hp
    rcases List.mem_cons.1 hp with rfl | hp
    · exact ⟨_, h2⟩
    · exact h3.mem p hp
end
end Go.Pl
namespace Go.Proofs.Ytplijfgjdlghbaa
open Go.RowKit Go.Pl
def idv (o k : Int) : Value := .agg #[.int .i64 o, .int .i64 k]
def I64 (z : Int) : Prop := -9223372036854775808 ≤ z ∧ z ≤ 9223372036854775807
/-- What a process knows of a broadcast, its number j. -/
def CastAt (w : World) (L : Nat → Lab) (j sb : Nat) (c : Bra.Cast) : Prop :=
  ∃ eb rb le lr, L sb = .st j ∧ Blk w sb 79 #[.bool c.echoed, .bool c.readied, .bool c.delivered, .map (some eb), .map (some rb)] ∧
    L eb = .ech j ∧ MapIs w eb le ∧ VotesIs w (fun i => L i = .byt) c.echoes le ∧ L rb = .rdy j ∧ MapIs w rb lr ∧ VotesIs w (fun i => L i = .byt) c.readies lr
/-- l are the entries of the map of broadcasts. -/
def CastsIs (w : World) (L : Nat → Lab) : Nat → List Bra.Cast → List (Value × Value) → Prop
  | _, [], l => l = []
  | j, c :: cs, l => ∃ sb l', l = (idv c.origin c.number, .pointer (some ⟨sb, 0, none⟩)) :: l' ∧ I64 c.origin ∧ I64 c.number ∧ CastAt w L j sb c ∧ CastsIs w L (j + 1) cs l'
section
variable {w w' : World} {L L' : Nat → Lab}
/-- Blocks of these labels have not been touched. -/
theorem CastAt.keep {F : Nat → Prop} {j sb : Nat} {c : Bra.Cast} (h : CastAt w L j sb c) (hf : Fr F w w') (hL : ∀ i, L i ≠ .no → L' i = L i) (h1 : ∀ i, L i = .st j → ¬ F i) (h2 : ∀ i, L i = .ech j → ¬ F i) (h3 : ∀ i, L i = .rdy j → ¬ F i) (h4 : ∀ i, L i = .byt → ¬ F i) : CastAt w' L' j sb c := by
  obtain ⟨eb, rb, le, lr, k1, k2, k3, k4, k5, k6, k7, k8⟩ := h
  have hm : ∀ i, i < w'.heap.size → L i = .byt → L' i = .byt := fun i _ hi => by rw [hL i (by rw [hi]; simp), hi]
  exact ⟨eb, rb, le, lr, by rw [hL _ (by rw [k1]; simp), k1], k2.fr hf (h1 _ k1), by rw [hL _ (by rw [k3]; simp), k3], k4.fr hf (h2 _ k3), (k5.fr hf h4).mono hm,
    by rw [hL _ (by rw [k6]; simp), k6], k7.fr hf (h3 _ k6), (k8.fr hf h4).mono hm⟩
theorem CastsIs.keys {P : Program} {k : TypeId} (hk : ∀ o n, I64 o → I64 n → ∃ x, keyOf P k (idv o n) = some x) : ∀ {j : Nat} {cs : List Bra.Cast} {l : List (Value × Value)}, CastsIs w L j cs l → ∀ p ∈ l, ∃ x, keyOf P k p.1 = some x
  | _, [], _, h, p, hp => by cases h; cases hp
  | _, c :: cs, _, ⟨sb, l', h1, h2, h3, h4, h5⟩, p, hp => by
    rw [h1] at hp
    rcases List.mem_cons.1 hp with rfl | hp
    · exact hk _ _ h2 h3
    · exact h5.keys hk p hp
theorem idv_inj {o k o' k' : Int} (h : idv o k = idv o' k') : o = o' ∧ k = k' := by simpa [idv] using h
theorem CastsIs.get : ∀ {j i : Nat} {cs : List Bra.Cast} {l : List (Value × Value)} {c : Bra.Cast}, CastsIs w L j cs l → cs[i]? = some c → ∃ sb, l[i]? = some (idv c.origin c.number, .pointer (some ⟨sb, 0, none⟩)) ∧ I64 c.origin ∧ I64 c.number ∧ CastAt w L (j + i) sb c
  | _, _, [], _, _, _, hc => by simp at hc
  | j, 0, c0 :: cs, _, c, ⟨sb, l', h1, h2, h3, h4, h5⟩, hc => by
    obtain rfl : c0 = c := by simpa using hc
    exact ⟨sb, by rw [h1]; rfl, h2, h3, h4⟩
  | j, i + 1, c0 :: cs, _, c, ⟨sb, l', h1, h2, h3, h4, h5⟩, hc => by
    obtain ⟨sb', k1, k2, k3, k4⟩ := h5.get (i := i) (by simpa using hc)
    exact ⟨sb', by rw [h1]; simpa using k1, k2, k3, by rw [show j + (i + 1) = j + 1 + i by omega]; exact k4⟩
theorem CastsIs.len : ∀ {j : Nat} {cs : List Bra.Cast} {l : List (Value × Value)}, CastsIs w L j cs l → l.length = cs.length
  | _, [], _, h => by cases h; rfl
  | _, c :: cs, _, ⟨sb, l', h1, h2, h3, h4, h5⟩ => by rw [h1]; simp [h5.len]
/-- One of them anew, the others as they are. -/
theorem CastsIs.set : ∀ {j i : Nat} {cs : List Bra.Cast} {l : List (Value × Value)} {c : Bra.Cast} {sb : Nat}, CastsIs w L j cs l → l[i]? = some (idv c.origin c.number, .pointer (some ⟨sb, 0, none⟩)) →
    CastAt w' L' (j + i) sb c → (∀ x g d, x ≠ j + i → CastAt w L x g d → CastAt w' L' x g d) → CastsIs w' L' j (cs.set i c) l
  | _, _, [], _, _, _, h, _, _, _ => by cases h; rfl
  | j, 0, c0 :: cs, _, c, sb, ⟨sb0, l', h1, h2, h3, h4, h5⟩, hl, hc, ho => by
    rw [h1] at hl
    have e : idv c0.origin c0.number = idv c.origin c.number ∧ sb0 = sb := by simpa using hl
    obtain ⟨e1, e2⟩ := idv_inj e.1
    obtain rfl := e.2
    refine ⟨sb0, l', by rw [h1, e1, e2], by rw [← e1]; exact h2, by rw [← e2]; exact h3, hc, ?_⟩
    exact keepAll h5 (fun x g d hx hd => ho x g d (by omega) hd)
  | j, i + 1, c0 :: cs, _, c, sb, ⟨sb0, l', h1, h2, h3, h4, h5⟩, hl, hc, ho => by
    rw [h1] at hl
    refine ⟨sb0, l', h1, h2, h3, ho j sb0 c0 (by omega) h4, ?_⟩
    exact h5.set (by simpa using hl) (by rw [show j + 1 + i = j + (i + 1) by omega]; exact hc) (fun x g d hx hd => ho x g d (by omega) hd)
where
  keepAll : ∀ {j : Nat} {cs : List Bra.Cast} {l : List (Value × Value)}, CastsIs w L j cs l → (∀ x g d, j ≤ x → CastAt w L x g d → CastAt w' L' x g d) → CastsIs w' L' j cs l
    | _, [], _, h, _ => h
    | j, c :: cs, _, ⟨sb, l', h1, h2, h3, h4, h5⟩, ho => ⟨sb, l', h1, h2, h3, ho j sb c (Nat.le_refl _) h4, keepAll h5 (fun x g d hx hd => ho x g d (by omega) hd)⟩
theorem CastsIs.all {j : Nat} {cs : List Bra.Cast} {l : List (Value × Value)} (h : CastsIs w L j cs l) (ho : ∀ x g d, j ≤ x → x < j + cs.length → CastAt w L x g d → CastAt w' L' x g d) : CastsIs w' L' j cs l := by
  induction cs generalizing j l with
  | nil => exact h
  | cons c cs ih =>
    obtain ⟨sb, l', h1, h2, h3, h4, h5⟩ := h
    exact ⟨sb, l', h1, h2, h3, ho j sb c (Nat.le_refl _) (by simp) h4, ih h5 (fun x g d hx hx2 hd => ho x g d (by omega) (by simp; omega) hd)⟩
theorem CastsIs.snoc {c : Bra.Cast} {sb : Nat} (ho : I64 c.origin) (hn : I64 c.number) : ∀ {j : Nat} {cs : List Bra.Cast} {l : List (Value × Value)}, CastsIs w L j cs l → CastAt w L (j + cs.length) sb c → CastsIs w L j (cs ++ [c]) (l ++ [(idv c.origin c.number, .pointer (some ⟨sb, 0, none⟩))])
  | _, [], _, h, hc => by cases h; exact ⟨sb, [], rfl, ho, hn, by simpa using hc, rfl⟩
  | j, c0 :: cs, _, ⟨sb0, l', h1, h2, h3, h4, h5⟩, hc => ⟨sb0, l' ++ [(idv c.origin c.number, .pointer (some ⟨sb, 0, none⟩))], by rw [h1, List.cons_append], h2, h3, h4, h5.snoc ho hn (by rw [show j + 1 + cs.length = j + (c0 :: cs).length by simp; omega]; exact hc)⟩
end
/-- A process. -/
structure ProcAt (w : World) (L : Nat → Lab) (G : Nat) (p : Bra.Proc) : Prop where
  n1 : 1 ≤ p.n
  n2 : p.n ≤ 64
  self : p.self < p.n
  own : p.own ≤ 1000000
  fits : ∀ d ∈ p.done, Fits d.payload
  few : p.done.length ≤ 1000000
  labs : ∀ i, L i ≠ .no → i < w.heap.size
  lab : L G = .proc
  at_ : ∃ M A nd cd lm vs, Blk w G 69 #[.int .i64 p.n, .int .i64 p.self, .int .i64 (Bra.faults p.n), .int .i64 p.own, .map (some M), .slice A nd cd] ∧ L M = .states ∧ MapIs w M lm ∧ CastsIs w L 0 p.casts lm ∧
    w.ownsRow 0 56 3 (.slice A nd cd) nd vs ∧ (∀ g, (Value.slice A nd cd).ownBlock = some g → L g = .dels) ∧ DesIs w (fun i => L i = .byt) p.done vs
section
variable {w w' : World} {L L' : Nat → Lab} {G : Nat} {p : Bra.Proc}
/-- None of the process's blocks has been touched. -/
theorem ProcAt.fr {F : Nat → Prop} (h : ProcAt w L G p) (hf : Fr F w w') (hF : ∀ i, F i → L i = .no) : ProcAt w' L G p := by
  obtain ⟨M, A, nd, cd, lm, vs, h1, h2, h3, h4, h5, h6, h7⟩ := h.at_
  have ne : ∀ {i : Nat} {x : Lab}, L i = x → x ≠ .no → ¬ F i := fun e hx hi => hx (by rw [← e]; exact hF _ hi)
  exact ⟨h.n1, h.n2, h.self, h.own, h.fits, h.few, fun i hi => Nat.lt_of_lt_of_le (h.labs i hi) hf.size, h.lab, M, A, nd, cd, lm, vs, h1.fr hf (ne h.lab (by simp)), h2, h3.fr hf (ne h2 (by simp)),
    h4.all (fun x g d _ _ hd => hd.keep hf (fun _ _ => rfl) (fun i e => ne e (by simp)) (fun i e => ne e (by simp)) (fun i e => ne e (by simp)) (fun i e => ne e (by simp))),
    own_fr h5 hf (fun g e => ne (h6 g e) (by simp)), h6, h7.fr hf (fun i e => ne e (by simp))⟩
theorem ProcAt.up (h : ProcAt w L G p) (hb : Below w.heap.size w w') : ProcAt w' L G p := h.fr (Fr.of_below (F := fun _ => False) hb) (fun _ h => h.elim)
theorem ProcAt.lt (h : ProcAt w L G p) : G < w.heap.size := h.labs G (by rw [h.lab]; simp)
end
end Go.Proofs.Ytplijfgjdlghbaa

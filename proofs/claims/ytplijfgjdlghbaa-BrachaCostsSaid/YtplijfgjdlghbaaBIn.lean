/-
  A process laid open, and what a received message changes in it.
-/
import Derived.Test.YtplijfgjdlghbaaBNew
namespace Bra
theorem set_same {cs : List Cast} {j : Nat} {c : Cast} (h : cs[j]? = some c) : cs.set j c = cs := by
  obtain ⟨hl, rfl⟩ := List.getElem?_eq_some_iff.1 h
  exact List.set_getElem_self hl
end Bra
namespace Go.Proofs.Ytplijfgjdlghbaa
open Go.RowKit Go.Pl
structure ProcIn (w : World) (L : Nat → Lab) (G : Nat) (p : Bra.Proc) (M : Nat) (A : Option Addr) (nd cd : Nat) (lm : List (Value × Value)) (vs : List Value) : Prop where
  n1 : 1 ≤ p.n
  n2 : p.n ≤ 64
  self : p.self < p.n
  own : p.own ≤ 1000000
  fits : ∀ d ∈ p.done, Fits d.payload
  few : p.done.length ≤ 1000000
  labs : ∀ i, L i ≠ .no → i < w.heap.size
  lab : L G = .proc
  blk : Blk w G 69 #[.int .i64 p.n, .int .i64 p.self, .int .i64 (Bra.faults p.n), .int .i64 p.own, .map (some M), .slice A nd cd]
  labM : L M = .states
  map : MapIs w M lm
  casts : CastsIs w L 0 p.casts lm
  row : w.ownsRow 0 56 3 (.slice A nd cd) nd vs
  labR : ∀ g, (Value.slice A nd cd).ownBlock = some g → L g = .dels
  des : DesIs w (fun i => L i = .byt) p.done vs
section
variable {w w' : World} {L L' : Nat → Lab} {G : Nat} {p : Bra.Proc} {M : Nat} {A : Option Addr} {nd cd : Nat} {lm : List (Value × Value)} {vs : List Value}
theorem ProcAt.in_ (h : ProcAt w L G p) : ∃ M A nd cd lm vs, ProcIn w L G p M A nd cd lm vs := by
  obtain ⟨n1, n2, n3, n4, n5, n6, n7, n8, M, A, nd, cd, lm, vs, h1, h2, h3, h4, h5, h6, h7⟩ := h
  exact ⟨M, A, nd, cd, lm, vs, n1, n2, n3, n4, n5, n6, n7, n8, h1, h2, h3, h4, h5, h6, h7⟩
theorem ProcIn.at_ (h : ProcIn w L G p M A nd cd lm vs) : ProcAt w L G p :=
  ⟨h.n1, h.n2, h.self, h.own, h.fits, h.few, h.labs, h.lab, M, A, nd, cd, lm, vs, h.blk, h.labM, h.map, h.casts, h.row, h.labR, h.des⟩
theorem ProcIn.ndLen (h : ProcIn w L G p M A nd cd lm vs) : nd = p.done.length := by
  have h1 := h.row.1
  have h2 : vs.length = p.done.length * 3 := h.des.len
  omega
/-- None of the process's blocks has been touched; more blocks may be labelled. -/
theorem ProcIn.fr {F : Nat → Prop} (h : ProcIn w L G p M A nd cd lm vs) (hf : Fr F w w') (hF : ∀ i, F i → L i = .no) (hL : ∀ i, L i ≠ .no → L' i = L i) (hLs : ∀ i, L' i ≠ .no → i < w'.heap.size) : ProcIn w' L' G p M A nd cd lm vs := by
  have ne : ∀ {i : Nat} {x : Lab}, L i = x → x ≠ .no → ¬ F i := fun e hx hi => hx (by rw [← e]; exact hF _ hi)
  have up : ∀ {i : Nat} {x : Lab}, L i = x → x ≠ .no → L' i = x := fun e hx => by rw [hL _ (by rw [e]; exact hx), e]
  exact ⟨h.n1, h.n2, h.self, h.own, h.fits, h.few, hLs, up h.lab (by simp), h.blk.fr hf (ne h.lab (by simp)), up h.labM (by simp), h.map.fr hf (ne h.labM (by simp)),
    h.casts.all (fun x g d _ _ hd => hd.keep hf hL (fun i e => ne e (by simp)) (fun i e => ne e (by simp)) (fun i e => ne e (by simp)) (fun i e => ne e (by simp))),
    own_fr h.row hf (fun g e => ne (h.labR g e) (by simp)), fun g e => up (h.labR g e) (by simp), (h.des.fr hf (fun i e => ne e (by simp))).mono (fun i _ e => up e (by simp))⟩
theorem ProcIn.up (h : ProcIn w L G p M A nd cd lm vs) (hb : Below w.heap.size w w') : ProcIn w' L G p M A nd cd lm vs :=
  h.fr (Fr.of_below (F := fun _ => False) hb) (fun _ h => h.elim) (fun _ _ => rfl) (fun i hi => Nat.lt_of_lt_of_le (h.labs i hi) hb.size)
/-- One broadcast anew. -/
theorem ProcIn.cast {F : Nat → Prop} (h : ProcIn w L G p M A nd cd lm vs) {j sb : Nat} {c' : Bra.Cast} (hl : lm[j]? = some (idv c'.origin c'.number, .pointer (some ⟨sb, 0, none⟩))) (hf : Fr F w w')
    (hF : ∀ i, F i → L i = .no ∨ L i = .st j ∨ L i = .ech j ∨ L i = .rdy j) (hL : ∀ i, L i ≠ .no → L' i = L i) (hLs : ∀ i, L' i ≠ .no → i < w'.heap.size) (hc : CastAt w' L' j sb c') :
    ProcIn w' L' G { p with casts := p.casts.set j c' } M A nd cd lm vs := by
  have ne : ∀ {i : Nat} {x : Lab}, L i = x → x ≠ .no → x ≠ .st j → x ≠ .ech j → x ≠ .rdy j → ¬ F i := fun e h0 h1 h2 h3 hi => by
    rcases hF _ hi with h | h | h | h
    · exact h0 (e.symm.trans h)
    · exact h1 (e.symm.trans h)
    · exact h2 (e.symm.trans h)
    · exact h3 (e.symm.trans h)
  have up : ∀ {i : Nat} {x : Lab}, L i = x → x ≠ .no → L' i = x := fun e hx => by rw [hL _ (by rw [e]; exact hx), e]
  exact ⟨h.n1, h.n2, h.self, h.own, h.fits, h.few, hLs, up h.lab (by simp), h.blk.fr hf (ne h.lab (by simp) (by simp) (by simp) (by simp)), up h.labM (by simp), h.map.fr hf (ne h.labM (by simp) (by simp) (by simp) (by simp)),
    h.casts.set hl (by simpa using hc) (fun x g d hx hd => hd.keep hf hL (fun i e => ne e (by simp) (by simp; omega) (by simp) (by simp)) (fun i e => ne e (by simp) (by simp) (by simp; omega) (by simp))
      (fun i e => ne e (by simp) (by simp) (by simp) (by simp; omega)) (fun i e => ne e (by simp) (by simp) (by simp) (by simp))),
    own_fr h.row hf (fun g e => ne (h.labR g e) (by simp) (by simp) (by simp) (by simp)), fun g e => up (h.labR g e) (by simp), (h.des.fr hf (fun i e => ne e (by simp) (by simp) (by simp) (by simp))).mono (fun i _ e => up e (by simp))⟩
/-- A broadcast that was not known. -/
theorem ProcIn.snoc {F : Nat → Prop} (h : ProcIn w L G p M A nd cd lm vs) {sb : Nat} {c' : Bra.Cast} (hm : MapIs w' M (lm ++ [(idv c'.origin c'.number, .pointer (some ⟨sb, 0, none⟩))])) (hf : Fr F w w')
    (hF : ∀ i, F i → L i = .no ∨ i = M) (hL : ∀ i, L i ≠ .no → L' i = L i) (hLs : ∀ i, L' i ≠ .no → i < w'.heap.size) (ho : I64 c'.origin) (hn : I64 c'.number) (hc : CastAt w' L' p.casts.length sb c') :
    ProcIn w' L' G { p with casts := p.casts ++ [c'] } M A nd cd (lm ++ [(idv c'.origin c'.number, .pointer (some ⟨sb, 0, none⟩))]) vs := by
  have ne : ∀ {i : Nat} {x : Lab}, L i = x → x ≠ .no → x ≠ .states → ¬ F i := fun e h0 h1 hi => by
    rcases hF _ hi with h2 | h2
    · exact h0 (e.symm.trans h2)
    · exact h1 (by rw [← e, h2, h.labM])
  have up : ∀ {i : Nat} {x : Lab}, L i = x → x ≠ .no → L' i = x := fun e hx => by rw [hL _ (by rw [e]; exact hx), e]
  exact ⟨h.n1, h.n2, h.self, h.own, h.fits, h.few, hLs, up h.lab (by simp), h.blk.fr hf (ne h.lab (by simp) (by simp)), up h.labM (by simp), hm,
    (h.casts.all (fun x g d _ _ hd => hd.keep hf hL (fun i e => ne e (by simp) (by simp)) (fun i e => ne e (by simp) (by simp)) (fun i e => ne e (by simp) (by simp)) (fun i e => ne e (by simp) (by simp)))).snoc ho hn (by simpa using hc),
    own_fr h.row hf (fun g e => ne (h.labR g e) (by simp) (by simp)), fun g e => up (h.labR g e) (by simp), (h.des.fr hf (fun i e => ne e (by simp) (by simp))).mono (fun i _ e => up e (by simp))⟩
/-- A delivery more. -/
theorem ProcIn.deliver {F : Nat → Prop} (h : ProcIn w L G p M A nd cd lm vs) {A' : Option Addr} {nd' cd' : Nat} {d : Bra.Del} {s : Value} (hf : Fr F w w') (hF : ∀ i, F i → L i = .no ∨ L i = .dels ∨ i = G) (hL : ∀ i, L i ≠ .no → L' i = L i) (hLs : ∀ i, L' i ≠ .no → i < w'.heap.size)
    (hblk : Blk w' G 69 #[.int .i64 p.n, .int .i64 p.self, .int .i64 (Bra.faults p.n), .int .i64 p.own, .map (some M), .slice A' nd' cd']) (hrow : w'.ownsRow 0 56 3 (.slice A' nd' cd') nd' (vs ++ dev d s))
    (hlab : ∀ g, (Value.slice A' nd' cd').ownBlock = some g → L' g = .dels) (hs : SlIs w' (fun i => L' i = .byt) s d.payload) (hfit : Fits d.payload) (hfew : p.done.length < 1000000) :
    ProcIn w' L' G { p with done := p.done ++ [d] } M A' nd' cd' lm (vs ++ dev d s) := by
  have ne : ∀ {i : Nat} {x : Lab}, L i = x → x ≠ .no → x ≠ .dels → x ≠ .proc → ¬ F i := fun e h0 h1 h2 hi => by
    rcases hF _ hi with h3 | h3 | h3
    · exact h0 (e.symm.trans h3)
    · exact h1 (e.symm.trans h3)
    · exact h2 (by rw [← e, h3, h.lab])
  have up : ∀ {i : Nat} {x : Lab}, L i = x → x ≠ .no → L' i = x := fun e hx => by rw [hL _ (by rw [e]; exact hx), e]
  refine ⟨h.n1, h.n2, h.self, h.own, fun x hx => ?_, by simp; omega, hLs, up h.lab (by simp), hblk, up h.labM (by simp), h.map.fr hf (ne h.labM (by simp) (by simp) (by simp)),
    h.casts.all (fun x g d _ _ hd => hd.keep hf hL (fun i e => ne e (by simp) (by simp) (by simp)) (fun i e => ne e (by simp) (by simp) (by simp)) (fun i e => ne e (by simp) (by simp) (by simp)) (fun i e => ne e (by simp) (by simp) (by simp))),
    hrow, hlab, ((h.des.fr hf (fun i e => ne e (by simp) (by simp) (by simp))).mono (fun i _ e => up e (by simp))).snoc hs⟩
  rcases List.mem_append.1 hx with hx | hx
  · exact h.fits x hx
  · obtain rfl : x = d := by simpa using hx
    exact hfit
end
end Go.Proofs.Ytplijfgjdlghbaa

/-
  Reliable broadcast, as plain functions on lists.
-/
namespace Bra
/-- A message. -/
structure Pkt where
  kind : Int
  src : Int
  to : Int
  origin : Int
  number : Int
  payload : List UInt8
deriving DecidableEq
/-- A delivery. -/
structure Del where
  origin : Int
  number : Int
  payload : List UInt8
deriving DecidableEq
/-- First messages of one kind, by their senders. -/
abbrev Votes := List (Int × List UInt8)
/-- What a process knows of a broadcast. -/
structure Cast where
  origin : Int
  number : Int
  echoed : Bool
  readied : Bool
  delivered : Bool
  echoes : Votes
  readies : Votes
deriving DecidableEq
structure Proc where
  n : Nat
  self : Nat
  own : Nat
  casts : List Cast
  done : List Del
deriving DecidableEq
def faults (n : Nat) : Nat := (n - 1) / 3
def start (n self : Nat) : Proc := ⟨n, self, 0, [], []⟩
def all (n self : Nat) (kind origin number : Int) (s : List UInt8) : List Pkt := (List.range n).map fun (i : Nat) => ⟨kind, (self : Int), (i : Int), origin, number, s⟩
def count (v : Votes) (s : List UInt8) : Nat := (v.filter fun x => x.2 == s).length
def voted (v : Votes) (i : Int) : Bool := v.any fun x => x.1 == i
def Cast.is (c : Cast) (o k : Int) : Bool := c.origin == o && c.number == k
def fresh (o k : Int) : Cast := ⟨o, k, false, false, false, [], []⟩
def ensure (cs : List Cast) (o k : Int) : List Cast := if cs.any (·.is o k) then cs else cs ++ [fresh o k]
def at_ (cs : List Cast) (o k : Int) : Nat := cs.findIdx (·.is o k)
/-- What is known of a broadcast. -/
def look (cs : List Cast) (o k : Int) : Cast := (cs.find? (·.is o k)).getD (fresh o k)
/-- A message received: what is known then, whether it sends, whether it delivers. -/
def step (n : Nat) (c : Cast) (m : Pkt) : Cast × Bool × Bool :=
  if m.kind = 1 then (if c.echoed then (c, false, false) else ({ c with echoed := true }, true, false))
  else if m.kind = 2 then
    if voted c.echoes m.src then (c, false, false)
    else
      let v := c.echoes ++ [(m.src, m.payload)]
      let s := decide (n + faults n < 2 * count v m.payload) && !c.readied
      ({ c with echoes := v, readied := c.readied || s }, s, false)
  else
    if voted c.readies m.src then (c, false, false)
    else
      let v := c.readies ++ [(m.src, m.payload)]
      let s := decide (faults n + 1 ≤ count v m.payload) && !c.readied
      let d := decide (2 * faults n + 1 ≤ count v m.payload) && !c.delivered
      ({ c with readies := v, readied := c.readied || s, delivered := c.delivered || d }, s, d)
def valid (n self : Nat) (m : Pkt) : Bool :=
  decide (m.to = self) && decide (0 ≤ m.src) && decide (m.src < n) && decide (0 ≤ m.origin) && decide (m.origin < n) && decide (1 ≤ m.number) && decide (1 ≤ m.kind) && decide (m.kind ≤ 3) && !(decide (m.kind = 1) && !decide (m.src = m.origin))
def reply (k : Int) : Int := if k = 1 then 2 else 3
def recv (p : Proc) (m : Pkt) : Proc × List Pkt :=
  if valid p.n p.self m then
    let r := step p.n (look p.casts m.origin m.number) m
    ({ p with casts := (ensure p.casts m.origin m.number).set (at_ p.casts m.origin m.number) r.1, done := if r.2.2 then p.done ++ [⟨m.origin, m.number, m.payload⟩] else p.done },
      if r.2.1 then all p.n p.self (reply m.kind) m.origin m.number m.payload else [])
  else (p, [])
def bcast (p : Proc) (s : List UInt8) : Proc × List Pkt := ({ p with own := p.own + 1 }, all p.n p.self 1 p.self (p.own + 1 : Nat) s)
/-! ### lists -/
theorem is_iff {c : Cast} {o k : Int} : c.is o k = true ↔ c.origin = o ∧ c.number = k := by simp [Cast.is]
theorem fresh_is (o k : Int) : (fresh o k).is o k = true := by simp [Cast.is, fresh]
theorem at_le (cs : List Cast) (o k : Int) : at_ cs o k ≤ cs.length := List.findIdx_le_length
theorem ensure_at (cs : List Cast) (o k : Int) : (ensure cs o k)[at_ cs o k]? = some (look cs o k) := by
  unfold ensure at_ look
  by_cases h : cs.any (·.is o k) = true
  · rw [if_pos h]
    have hx : ∃ x ∈ cs, x.is o k = true := by simpa using h
    have hl := List.findIdx_lt_length_of_exists hx
    rw [List.getElem?_eq_getElem hl, (List.find?_eq_some_iff_getElem (p := fun x => x.is o k)).2 ⟨List.findIdx_getElem (w := hl), List.findIdx (·.is o k) cs, hl, rfl, fun j hj => by simpa using List.not_of_lt_findIdx hj⟩]
    rfl
  · rw [if_neg h]
    have hn : ∀ x ∈ cs, (x.is o k) = false := by simpa using h
    have he : List.findIdx (·.is o k) cs = cs.length := List.findIdx_eq_length_of_false hn
    rw [he, List.find?_eq_none.2 (by simpa using hn)]
    simp
theorem at_lt (cs : List Cast) (o k : Int) : at_ cs o k < (ensure cs o k).length := (List.getElem?_eq_some_iff.1 (ensure_at cs o k)).1
theorem look_is (cs : List Cast) (o k : Int) : (look cs o k).is o k = true := by
  unfold look
  cases h : cs.find? (·.is o k) with
  | none => exact fresh_is o k
  | some c => exact List.find?_some (p := fun x : Cast => x.is o k) h
theorem step_key (n : Nat) (c : Cast) (m : Pkt) : (step n c m).1.origin = c.origin ∧ (step n c m).1.number = c.number := by
  unfold step
  split
  · split <;> exact ⟨rfl, rfl⟩
  · split
    · split <;> exact ⟨rfl, rfl⟩
    · split <;> exact ⟨rfl, rfl⟩
theorem recv_valid {p : Proc} {m : Pkt} {c : Cast} (hv : valid p.n p.self m = true) (hc : look p.casts m.origin m.number = c) :
    recv p m = ({ p with casts := (ensure p.casts m.origin m.number).set (at_ p.casts m.origin m.number) (step p.n c m).1, done := if (step p.n c m).2.2 then p.done ++ [⟨m.origin, m.number, m.payload⟩] else p.done },
      if (step p.n c m).2.1 then all p.n p.self (reply m.kind) m.origin m.number m.payload else []) := by
  subst hc
  unfold recv
  rw [if_pos hv]
theorem recv_bad {p : Proc} {m : Pkt} (hv : valid p.n p.self m = false) : recv p m = (p, []) := by
  unfold recv
  rw [if_neg (by rw [hv]; exact Bool.false_ne_true)]
theorem all_length (n self : Nat) (kind origin number : Int) (s : List UInt8) : (all n self kind origin number s).length = n := by simp [all]
theorem count_snoc (v : Votes) (i : Int) (t s : List UInt8) : count (v ++ [(i, t)]) s = count v s + (if t = s then 1 else 0) := by
  unfold count
  rw [List.filter_append, List.length_append]
  by_cases h : t = s
  · subst h; simp
  · simp [h]
theorem count_le (v : Votes) (s : List UInt8) : count v s ≤ v.length := List.length_filter_le _ _
end Bra

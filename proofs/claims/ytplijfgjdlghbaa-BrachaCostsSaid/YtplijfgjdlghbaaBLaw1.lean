/-
  A message that was received has no effect when it is received again.
-/
import Derived.Test.YtplijfgjdlghbaaBP
namespace Bra
/-- What is known of one broadcast, replaced. -/
def upd (cs : List Cast) (o k : Int) (c : Cast) : List Cast := (ensure cs o k).set (at_ cs o k) c
theorem upd_nil (o k : Int) (c : Cast) : upd [] o k c = [c] := by simp [upd, ensure, at_]
theorem upd_cons (d : Cast) (cs : List Cast) (o k : Int) (c : Cast) : upd (d :: cs) o k c = if d.is o k then c :: cs else d :: upd cs o k c := by
  unfold upd ensure at_
  by_cases h : d.is o k = true
  · simp [h, List.findIdx_cons]
  · have h' : d.is o k = false := by simpa using h
    simp only [List.any_cons, h', Bool.false_or, List.findIdx_cons, cond_false, Bool.false_eq_true, if_false]
    by_cases h2 : cs.any (·.is o k) = true
    · simp [h2]
    · simp [h2]
theorem is_trans {d : Cast} {o k o' k' : Int} (h : d.is o k = true) : d.is o' k' = decide (o = o' ∧ k = k') := by
  obtain ⟨h1, h2⟩ := is_iff.1 h
  subst h1 h2
  unfold Cast.is
  by_cases a : d.origin = o' <;> by_cases b : d.number = k' <;> simp [a, b]
theorem look_cons (d : Cast) (cs : List Cast) (o k : Int) : look (d :: cs) o k = if d.is o k then d else look cs o k := by
  unfold look
  rw [List.find?_cons]
  cases d.is o k <;> simp
theorem look_upd_same {c : Cast} {o k : Int} (hc : c.is o k = true) : ∀ cs : List Cast, look (upd cs o k c) o k = c
  | [] => by rw [upd_nil, look_cons, if_pos hc]
  | d :: cs => by
    rw [upd_cons]
    by_cases h : d.is o k = true
    · rw [if_pos h, look_cons, if_pos hc]
    · rw [if_neg h, look_cons, if_neg h, look_upd_same hc cs]
theorem look_upd_other {c : Cast} {o k o' k' : Int} (hc : c.is o k = true) (hne : ¬ (o = o' ∧ k = k')) : ∀ cs : List Cast, look (upd cs o k c) o' k' = look cs o' k'
  | [] => by rw [upd_nil, look_cons, is_trans hc, if_neg (by simpa using hne)]
  | d :: cs => by
    rw [upd_cons]
    by_cases h : d.is o k = true
    · rw [if_pos h, look_cons, look_cons, is_trans hc, is_trans h, if_neg (by simpa using hne), if_neg (by simpa using hne)]
    · rw [if_neg h, look_cons, look_cons, look_upd_other hc hne cs]
theorem any_upd {c : Cast} {o k o' k' : Int} (hc : c.is o k = true) : ∀ cs : List Cast, (upd cs o k c).any (·.is o' k') = (cs.any (·.is o' k') || decide (o = o' ∧ k = k'))
  | [] => by rw [upd_nil]; simp [is_trans hc]
  | d :: cs => by
    rw [upd_cons]
    by_cases h : d.is o k = true
    · rw [if_pos h, List.any_cons, List.any_cons, is_trans hc, is_trans h]
      cases decide (o = o' ∧ k = k') <;> simp
    · rw [if_neg h, List.any_cons, List.any_cons, any_upd hc cs, Bool.or_assoc]
theorem recv_upd {p : Proc} {m : Pkt} (hv : valid p.n p.self m = true) : (recv p m).1.casts = upd p.casts m.origin m.number (step p.n (look p.casts m.origin m.number) m).1 := by
  rw [recv_valid hv rfl]; rfl
theorem recv_n (p : Proc) (m : Pkt) : (recv p m).1.n = p.n ∧ (recv p m).1.self = p.self ∧ (recv p m).1.own = p.own := by
  unfold recv
  split <;> exact ⟨rfl, rfl, rfl⟩
theorem step_is {n : Nat} {c : Cast} {m : Pkt} {o k : Int} (h : c.is o k = true) : (step n c m).1.is o k = true := by
  obtain ⟨h1, h2⟩ := step_key n c m
  obtain ⟨h3, h4⟩ := is_iff.1 h
  exact is_iff.2 ⟨h1.trans h3, h2.trans h4⟩
/-- The message would change nothing in what is known. -/
def spent (c : Cast) (m : Pkt) : Bool := if m.kind = 1 then c.echoed else if m.kind = 2 then voted c.echoes m.src else voted c.readies m.src
theorem voted_snoc (v : Votes) (i j : Int) (s : List UInt8) : voted (v ++ [(j, s)]) i = (voted v i || j == i) := by simp [voted]
theorem step_spent {n : Nat} {c : Cast} {m : Pkt} (h : spent c m = true) : step n c m = (c, false, false) := by
  unfold spent at h
  unfold step
  split
  · rename_i hk; rw [if_pos hk] at h; rw [if_pos h]
  · rename_i hk
    rw [if_neg hk] at h
    split
    · rename_i hk2; rw [if_pos hk2] at h; rw [if_pos h]
    · rename_i hk2; rw [if_neg hk2] at h; rw [if_pos h]
theorem spent_step (n : Nat) (c : Cast) (m : Pkt) : spent (step n c m).1 m = true := by
  unfold step
  split
  · rename_i hk
    split
    · rename_i he; unfold spent; rw [if_pos hk]; exact he
    · unfold spent; rw [if_pos hk]
  · rename_i hk
    split
    · rename_i hk2
      split
      · rename_i he; unfold spent; rw [if_neg hk, if_pos hk2]; exact he
      · unfold spent; rw [if_neg hk, if_pos hk2]; simp [voted]
    · rename_i hk2
      split
      · rename_i he; unfold spent; rw [if_neg hk, if_neg hk2]; exact he
      · unfold spent; rw [if_neg hk, if_neg hk2]; simp [voted]
theorem spent_mono {n : Nat} {c : Cast} {m m' : Pkt} (h : spent c m = true) : spent (step n c m').1 m = true := by
  have he : c.echoed = true → (step n c m').1.echoed = true := by
    intro h; unfold step; (repeat' split) <;> simp_all
  have h2 : ∀ i, voted c.echoes i = true → voted (step n c m').1.echoes i = true := by
    intro i h; unfold step; (repeat' split) <;> simp_all [voted_snoc]
  have h3 : ∀ i, voted c.readies i = true → voted (step n c m').1.readies i = true := by
    intro i h; unfold step; (repeat' split) <;> simp_all [voted_snoc]
  unfold spent at h ⊢
  split
  · rename_i hk; rw [if_pos hk] at h; exact he h
  · rename_i hk
    rw [if_neg hk] at h
    split
    · rename_i hk2; rw [if_pos hk2] at h; exact h2 _ h
    · rename_i hk2; rw [if_neg hk2] at h; exact h3 _ h
/-- The message has been received. -/
def Known (p : Proc) (m : Pkt) : Prop := valid p.n p.self m = false ∨ (p.casts.any (·.is m.origin m.number) = true ∧ spent (look p.casts m.origin m.number) m = true)
theorem known_recv {p : Proc} {m : Pkt} (h : Known p m) : recv p m = (p, []) := by
  rcases h with h | ⟨h1, h2⟩
  · exact recv_bad h
  · cases hv : valid p.n p.self m with
    | false => exact recv_bad hv
    | true =>
      rw [recv_valid hv rfl, step_spent h2]
      have he : ensure p.casts m.origin m.number = p.casts := by unfold ensure; rw [if_pos h1]
      have hx := ensure_at p.casts m.origin m.number
      rw [he] at hx
      obtain ⟨hl, hx⟩ := List.getElem?_eq_some_iff.1 hx
      simp only [he, Bool.false_eq_true, if_false]
      have hset : p.casts.set (at_ p.casts m.origin m.number) (look p.casts m.origin m.number) = p.casts := by
        rw [← hx]; exact List.set_getElem_self hl
      rw [hset]
theorem known_after (p : Proc) (m : Pkt) : Known (recv p m).1 m := by
  cases hv : valid p.n p.self m with
  | false => rw [recv_bad hv]; exact .inl hv
  | true =>
    refine .inr ⟨?_, ?_⟩
    · rw [recv_upd hv, any_upd (step_is (look_is _ _ _))]; simp
    · rw [recv_upd hv, look_upd_same (step_is (look_is _ _ _))]; exact spent_step _ _ _
theorem known_mono {p : Proc} {m m' : Pkt} (h : Known p m) : Known (recv p m').1 m := by
  cases hv : valid p.n p.self m' with
  | false => rw [recv_bad hv]; exact h
  | true =>
    obtain ⟨e1, e2, _⟩ := recv_n p m'
    rcases h with h | ⟨h1, h2⟩
    · exact .inl (by rw [e1, e2]; exact h)
    · refine .inr ⟨?_, ?_⟩
      · rw [recv_upd hv, any_upd (step_is (look_is _ _ _)), h1, Bool.true_or]
      · rw [recv_upd hv]
        by_cases hk : m'.origin = m.origin ∧ m'.number = m.number
        · rw [hk.1, hk.2, look_upd_same (step_is (look_is _ _ _))]
          exact spent_mono h2
        · rw [look_upd_other (step_is (look_is _ _ _)) hk]; exact h2
theorem done_recv (p : Proc) (m : Pkt) : (recv p m).1.done.length ≤ p.done.length + 1 := by
  unfold recv
  split
  · dsimp only; split <;> simp
  · simp
end Bra

/-
  How many messages can still come; what a broadcast costs without liars.
-/
import Derived.Test.YtplijfgjdlghbaaBLaw5
namespace Bra
/-! ### what is still to be sent -/
def open1 (c : Cast) : Nat := (if c.echoed then 0 else 1) + (if c.readied then 0 else 1)
theorem open_or (c c' : Cast) (b : Bool) (h1 : c'.echoed = c.echoed) (h2 : c'.readied = (c.readied || b)) (h : b = true → c.readied = false) : open1 c' + (if b then 1 else 0) ≤ open1 c := by
  unfold open1
  rw [h1, h2]
  cases b with
  | true => rw [h rfl]; simp
  | false => simp
theorem step_open (n : Nat) (c : Cast) (m : Pkt) : open1 (step n c m).1 + (if (step n c m).2.1 then 1 else 0) ≤ open1 c := by
  unfold step
  split
  · split
    · simp
    · rename_i h; simp [open1, h]; omega
  · split
    · split
      · simp
      · exact open_or c _ _ rfl rfl (fun h => by simp at h; exact h.2)
    · split
      · simp
      · exact open_or c _ _ rfl rfl (fun h => by simp at h; exact h.2)
def sumOf {α : Type} (f : α → Nat) : List α → Nat
  | [] => 0
  | x :: l => f x + sumOf f l
theorem sumOf_le {α : Type} {f g : α → Nat} (h : ∀ x, f x ≤ g x) : ∀ l : List α, sumOf f l ≤ sumOf g l
  | [] => Nat.le_refl _
  | x :: l => by have := sumOf_le h l; have := h x; simp only [sumOf]; omega
theorem sumOf_lt {α : Type} {f g : α → Nat} (h : ∀ x, f x ≤ g x) {y : α} {d : Nat} (hy : f y + d ≤ g y) : ∀ {l : List α}, y ∈ l → sumOf f l + d ≤ sumOf g l
  | x :: l, hm => by
    have h1 := h x
    rcases List.mem_cons.1 hm with e | hm
    · subst e
      have := sumOf_le h l
      simp only [sumOf]; omega
    · have := sumOf_lt h hy hm
      simp only [sumOf]; omega
theorem sumOf_bound {α : Type} {f : α → Nat} {d : Nat} (h : ∀ x, f x ≤ d) : ∀ l : List α, sumOf f l ≤ d * l.length
  | [] => Nat.zero_le _
  | x :: l => by have := sumOf_bound h l; have := h x; simp only [sumOf, List.length_cons, Nat.mul_add]; omega
theorem sumOf_set {α : Type} (f : α → Nat) : ∀ (l : List α) (i : Nat) (x y : α), l[i]? = some x → sumOf f (l.set i y) + f x = sumOf f l + f y
  | a :: l, 0, x, y, h => by simp at h; subst h; simp only [List.set_cons_zero, sumOf]; omega
  | a :: l, i + 1, x, y, h => by
    have := sumOf_set f l i x y (by simpa using h)
    simp only [List.set_cons_succ, sumOf]; omega
def spare (ks : List (Int × Int)) (p : Proc) : Nat := sumOf (fun x => open1 (look p.casts x.1 x.2)) ks
def spares (ks : List (Int × Int)) (o : Option Proc) : Nat := match o with
  | none => 0
  | some p => spare ks p
/-- How many messages can still be received of those sent. -/
def due (ks : List (Int × Int)) (s : Grp) : Nat := s.pending.length + 7 * sumOf (spares ks) s.all
theorem open1_le (c : Cast) : open1 c ≤ 2 := by unfold open1; split <;> split <;> omega
theorem due_le {n : Nat} {s : Grp} (h : s.all.length = n) (h7 : n ≤ 7) (ks : List (Int × Int)) : due ks s ≤ s.pending.length + 98 * ks.length := by
  have h1 : ∀ o, spares ks o ≤ 2 * ks.length := fun o => by
    cases o with
    | none => exact Nat.zero_le _
    | some p => exact sumOf_bound (fun x => open1_le _) ks
  have h2 := sumOf_bound h1 s.all
  have h3 : 2 * ks.length * s.all.length ≤ 2 * ks.length * 7 := Nat.mul_le_mul_left _ (by omega)
  unfold due
  omega
theorem spare_recv {p : Proc} {m : Pkt} {ks : List (Int × Int)} (hv : valid p.n p.self m = true) (hk : (m.origin, m.number) ∈ ks) : spare ks (recv p m).1 + (if (step p.n (look p.casts m.origin m.number) m).2.1 then 1 else 0) ≤ spare ks p := by
  have hs := step_open p.n (look p.casts m.origin m.number) m
  refine sumOf_lt (y := (m.origin, m.number)) (fun x => ?_) ?_ hk
  · rw [recv_upd hv]
    by_cases e : m.origin = x.1 ∧ m.number = x.2
    · rw [← e.1, ← e.2, look_upd_same (step_is (look_is _ _ _))]
      omega
    · rw [look_upd_other (step_is (look_is _ _ _)) e]; exact Nat.le_refl _
  · dsimp only
    rw [recv_upd hv, look_upd_same (step_is (look_is _ _ _))]
    exact hs
/-- All pending messages are about broadcasts of a list. -/
def Keys (ks : List (Int × Int)) (s : Grp) : Prop := ∀ m ∈ s.pending, (m.origin, m.number) ∈ ks
theorem recv_keys {p : Proc} {m x : Pkt} (hx : x ∈ (recv p m).2) : x.origin = m.origin ∧ x.number = m.number := by
  unfold recv at hx
  split at hx
  · dsimp only at hx
    split at hx
    · obtain ⟨j, -, rfl⟩ := List.mem_map.1 hx; exact ⟨rfl, rfl⟩
    · cases hx
  · cases hx
theorem Keys.receive {ks : List (Int × Int)} {s : Grp} (h : Keys ks s) {m : Pkt} (hm : (m.origin, m.number) ∈ ks) : Keys ks (s.receive m) := by
  unfold Grp.receive
  cases s.at_ m.to with
  | none => exact h
  | some p =>
    intro x hx
    rcases List.mem_append.1 hx with hx | hx
    · exact h x hx
    · obtain ⟨e1, e2⟩ := recv_keys (List.mem_filter.1 hx).1
      rw [e1, e2]; exact hm
theorem Keys.erase {ks : List (Int × Int)} {s : Grp} (h : Keys ks s) (k : Nat) : Keys ks { s with pending := s.pending.eraseIdx k } := fun x hx => h x (List.mem_of_mem_eraseIdx hx)
theorem Keys.more {ks : List (Int × Int)} {s : Grp} (h : Keys ks s) (x : Int × Int) : Keys (x :: ks) s := fun m hm => List.mem_cons_of_mem _ (h m hm)
theorem due_take {n : Nat} {liar : Nat → Bool} {s : Grp} (h : Hold n liar s) (h7 : n ≤ 7) {ks : List (Int × Int)} (hks : Keys ks s) {m : Pkt} {k : Nat} (hk : s.pending[k]? = some m) : due ks (({ s with pending := s.pending.eraseIdx k } : Grp).receive m) + 1 ≤ due ks s := by
  obtain ⟨hkl, -⟩ := List.getElem?_eq_some_iff.1 hk
  have hlen : (s.pending.eraseIdx k).length + 1 = s.pending.length := by rw [List.length_eraseIdx_of_lt hkl]; omega
  have hmk := hks m (List.mem_of_getElem? hk)
  unfold Grp.receive
  have ha : ({ s with pending := s.pending.eraseIdx k } : Grp).at_ m.to = s.at_ m.to := rfl
  rw [ha]
  cases hm : s.at_ m.to with
  | none =>
    show (s.pending.eraseIdx k).length + 7 * sumOf (spares ks) s.all + 1 ≤ s.pending.length + 7 * sumOf (spares ks) s.all
    omega
  | some p =>
    obtain ⟨h0, hp⟩ := at_some hm
    obtain ⟨hl, pn, ps, -⟩ := h.proc _ p hp
    have hset := sumOf_set (spares ks) s.all m.to.toNat (some p) (some (recv p m).1) hp
    have hset : sumOf (spares ks) (s.all.set m.to.toNat (some (recv p m).1)) + spare ks p = sumOf (spares ks) s.all + spare ks (recv p m).1 := hset
    show ((s.pending.eraseIdx k) ++ (recv p m).2.filter _).length + 7 * sumOf (spares ks) (s.all.set m.to.toNat (some (recv p m).1)) + 1 ≤ s.pending.length + 7 * sumOf (spares ks) s.all
    rw [List.length_append]
    have hfl := List.length_filter_le (({ s with pending := s.pending.eraseIdx k } : Grp).put m.to.toNat (recv p m).1).goes (recv p m).2
    cases hv : valid p.n p.self m with
    | false =>
      rw [recv_bad hv] at hset ⊢
      dsimp only at hset ⊢
      rw [List.filter_nil, List.length_nil]
      omega
    | true =>
      have h1 := spare_recv hv hmk
      have h2 : (recv p m).2.length = if (step p.n (look p.casts m.origin m.number) m).2.1 then p.n else 0 := by
        rw [recv_valid hv rfl]
        dsimp only
        split
        · exact all_length _ _ _ _ _ _
        · rfl
      by_cases hs : (step p.n (look p.casts m.origin m.number) m).2.1 = true
      · rw [if_pos hs] at h1 h2
        rw [pn] at h2
        omega
      · rw [if_neg hs] at h1 h2
        omega
theorem keys_act {n j : Nat} {s : Grp} {bad : List Nat} {ks : List (Int × Int)} (h : Keys ks s) (hl : ks.length ≤ j) (x : Act) : ∃ ks', Keys ks' (s.act n bad x) ∧ ks'.length ≤ j + 1 := by
  have same : ∀ {s' : Grp}, Keys ks s' → ∃ ks', Keys ks' s' ∧ ks'.length ≤ j + 1 := fun h => ⟨ks, h, by omega⟩
  unfold Grp.act
  split
  · unfold Grp.say
    cases ((s.all[modn x.pick n]?).join) with
    | none => exact same h
    | some p =>
      dsimp only
      split
      · refine ⟨((p.self : Int), ((p.own + 1 : Nat) : Int)) :: ks, fun m hm => ?_, by simp; omega⟩
        rcases List.mem_append.1 hm with hm | hm
        · exact List.mem_cons_of_mem _ (h m hm)
        · obtain ⟨i, -, rfl⟩ := List.mem_map.1 (List.mem_filter.1 hm).1
          exact List.mem_cons_self
      · exact same h
  · split
    · split
      · exact same h
      · rename_i m hm
        have hmk := h m (List.mem_of_getElem? hm)
        split
        · exact same ((h.erase _).receive hmk)
        · exact same (h.receive hmk)
    · split
      · split
        · exact same h
        · split
          · exact ⟨_, (h.more (x.p.origin, x.p.number)).receive List.mem_cons_self, by simp; omega⟩
          · refine ⟨(x.p.origin, x.p.number) :: ks, fun m hm => ?_, by simp; omega⟩
            rcases List.mem_append.1 hm with hm | hm
            · exact List.mem_cons_of_mem _ (h m hm)
            · have hm := (List.mem_filter.1 hm).1
              simp at hm
              subst hm
              exact List.mem_cons_self
      · exact same h
theorem keys_run (n : Nat) (liar : Nat → Bool) (xs : List Act) : ∃ ks, Keys ks (xs.foldl (Grp.act n (bads n liar)) (Grp.start n liar)) ∧ ks.length ≤ xs.length := by
  have : ∀ (j : Nat) s ks, Keys ks s → ks.length ≤ j → ∃ ks', Keys ks' (xs.foldl (Grp.act n (bads n liar)) s) ∧ ks'.length ≤ j + xs.length := by
    induction xs with
    | nil => exact fun j s ks h hl => ⟨ks, h, by simpa using hl⟩
    | cons x xs ih =>
      intro j s ks h hl
      obtain ⟨ks1, h1, h2⟩ := keys_act (n := n) (bad := bads n liar) h hl x
      obtain ⟨ks2, h3, h4⟩ := ih (j + 1) _ ks1 h1 h2
      exact ⟨ks2, h3, by rw [List.length_cons]; omega⟩
  obtain ⟨ks, h1, h2⟩ := this 0 (Grp.start n liar) [] (fun m hm => by cases hm) (Nat.le_refl _)
  exact ⟨ks, h1, by omega⟩
theorem fine_run {n : Nat} (h7 : n ≤ 7) (liar : Nat → Bool) {xs : List Act} (hl : xs.length ≤ 100) (hx : ∀ x ∈ xs, x.p.payload.length ≤ 140737488355328 ∧ x.p.number ≤ 9223372036854775807) : Fine n xs.length (xs.foldl (Grp.act n (bads n liar)) (Grp.start n liar)) := by
  have : ∀ (ys : List Act), (∀ x ∈ ys, x.p.payload.length ≤ 140737488355328 ∧ x.p.number ≤ 9223372036854775807) → ∀ (j : Nat) s, Fine n j s → j + ys.length ≤ 100 → Fine n (j + ys.length) (ys.foldl (Grp.act n (bads n liar)) s) := by
    intro ys
    induction ys with
    | nil => exact fun _ j s h _ => h
    | cons x ys ih =>
      intro hx j s h hj
      rw [List.length_cons] at hj
      have := ih (fun y hy => hx y (List.mem_cons_of_mem _ hy)) (j + 1) _ (h.act h7 (by omega) (bads n liar) x (hx x List.mem_cons_self)) (by omega)
      rw [List.length_cons, show j + (ys.length + 1) = j + 1 + ys.length by omega]
      exact this
  have := this xs hx 0 _ (Fine.start liar) (by omega)
  rwa [Nat.zero_add] at this
/-- What holds while the pending messages arrive. -/
structure Tame (n : Nat) (liar : Nat → Bool) (ks : List (Int × Int)) (most i : Nat) (s : Grp) : Prop where
  hold : Hold n liar s
  keys : Keys ks s
  due : due ks s + i ≤ most
  done : ∀ (j : Nat) (p : Proc), s.all[j]? = some (some p) → p.done.length ≤ 100 + i
  pkt : ∀ m ∈ s.pending, m.payload.length ≤ 140737488355328 ∧ m.number ≤ 9223372036854775807
theorem Tame.take {n : Nat} {liar : Nat → Bool} {ks : List (Int × Int)} {most i : Nat} {s : Grp} (h : Tame n liar ks most i s) (hf : (bads n liar).length ≤ faults n) (h7 : n ≤ 7) {m : Pkt} {r : List Pkt} (hp : s.pending = m :: r) : Tame n liar ks most (i + 1) (({ s with pending := r } : Grp).receive m) := by
  have hk : s.pending[0]? = some m := by rw [hp]; rfl
  have hr : s.pending.eraseIdx 0 = r := by rw [hp]; rfl
  have a1 := h.hold.take hf hk
  have a2 := due_take h.hold h7 h.keys hk
  have a3 := (h.keys.erase 0).receive (h.keys m (List.mem_of_getElem? hk))
  rw [hr] at a1 a2 a3
  have h5 := h.due
  refine ⟨a1, a3, by omega, fun j p hj => ?_, fun x hx => ?_⟩
  · unfold Grp.receive at hj
    cases hm : ({ s with pending := r } : Grp).at_ m.to with
    | none =>
      rw [hm] at hj
      have := h.done j p hj
      omega
    | some q =>
      rw [hm] at hj
      obtain ⟨h0, hq⟩ := at_some hm
      have hq : s.all[m.to.toNat]? = some (some q) := hq
      rcases put_get (s := { s with pending := r }) hj with ⟨rfl, rfl⟩ | ⟨_, hj⟩
      · have h6 := done_recv q m
        have h7 := h.done _ q hq
        omega
      · have := h.done j p hj
        omega
  · unfold Grp.receive at hx
    cases hm : ({ s with pending := r } : Grp).at_ m.to with
    | none =>
      rw [hm] at hx
      exact h.pkt x (by rw [hp]; exact List.mem_cons_of_mem _ hx)
    | some q =>
      rw [hm] at hx
      rcases List.mem_append.1 hx with hx | hx
      · exact h.pkt x (by rw [hp]; exact List.mem_cons_of_mem _ hx)
      · obtain ⟨e1, e2⟩ := recv_same (List.mem_filter.1 hx).1
        rw [e1, e2]
        exact h.pkt m (by rw [hp]; exact List.mem_cons_self)
/-! ### the costs -/
def kindOf (k : Int) (l : List Pkt) : Nat := (l.filter fun m => m.kind == k).length
theorem kindOf_append (k : Int) (l l' : List Pkt) : kindOf k (l ++ l') = kindOf k l + kindOf k l' := by simp [kindOf]
theorem kindOf_erase (k : Int) : ∀ {l : List Pkt} {i : Nat} {m : Pkt}, l[i]? = some m → kindOf k (l.eraseIdx i) + (if m.kind = k then 1 else 0) = kindOf k l
  | a :: l, 0, m, h => by
    simp at h; subst h
    unfold kindOf
    by_cases e : a.kind = k
    · simp [e]
    · simp [e]
  | a :: l, i + 1, m, h => by
    have := kindOf_erase k (l := l) (i := i) (m := m) (by simpa using h)
    unfold kindOf at this ⊢
    rw [List.eraseIdx_cons_succ]
    by_cases e : a.kind = k
    · simp only [e, beq_self_eq_true, List.filter_cons_of_pos, List.length_cons]; omega
    · have e' : (a.kind == k) = false := by simpa using e
      rw [List.filter_cons_of_neg (by simp [e']), List.filter_cons_of_neg (by simp [e'])]; exact this
theorem kindOf_all (n i : Nat) (kd o k : Int) (t : List UInt8) (k' : Int) : kindOf k' (all n i kd o k t) = if kd = k' then n else 0 := by
  unfold kindOf
  by_cases e : kd = k'
  · rw [if_pos e, List.filter_eq_self.2 (fun m hm => by obtain ⟨j, -, rfl⟩ := List.mem_map.1 hm; simpa using e), all_length]
  · rw [if_neg e, List.filter_eq_nil_iff.2 (fun m hm => by obtain ⟨j, -, rfl⟩ := List.mem_map.1 hm; simpa using e)]; rfl
/-- Without liars: what has been counted, with what is pending. -/
structure Cost (n o : Nat) (t : List UInt8) (c1 c2 c3 : Nat) (s : Grp) : Prop where
  hold : Hold n (fun _ => false) s
  casts : s.casts = ((List.range n).map fun _ => ([] : List (List UInt8))).set o [t]
  keys : Keys [((o : Int), 1)] s
  kinds : ∀ m ∈ s.pending, 1 ≤ m.kind ∧ m.kind ≤ 3
  k1 : c1 + kindOf 1 s.pending = n
  k2 : c2 + kindOf 2 s.pending = n * cnt (fun i => (seen s i o 1).echoed) n
  k3 : c3 + kindOf 3 s.pending = n * cnt (fun i => (seen s i o 1).readied) n
theorem kinds_len : ∀ {l : List Pkt}, (∀ m ∈ l, 1 ≤ m.kind ∧ m.kind ≤ 3) → kindOf 1 l + kindOf 2 l + kindOf 3 l = l.length
  | [], _ => rfl
  | a :: l, h => by
    have ih := kinds_len (l := l) (fun m hm => h m (List.mem_cons_of_mem _ hm))
    have ha := h a List.mem_cons_self
    have : a.kind = 1 ∨ a.kind = 2 ∨ a.kind = 3 := by omega
    unfold kindOf at ih ⊢
    rcases this with e | e | e <;> simp [e] <;> omega
theorem cnt_le (p : Nat → Bool) : ∀ n, cnt p n ≤ n
  | 0 => Nat.le_refl _
  | n + 1 => by have := cnt_le p n; unfold cnt; split <;> omega
theorem Cost.sum {n o : Nat} {t : List UInt8} {c1 c2 c3 : Nat} {s : Grp} (h : Cost n o t c1 c2 c3 s) : c1 + c2 + c3 + s.pending.length ≤ 2 * n * n + n := by
  have h1 := kinds_len h.kinds
  have h2 : n * cnt (fun i => (seen s i o 1).echoed) n ≤ n * n := Nat.mul_le_mul_left _ (cnt_le _ _)
  have h3 : n * cnt (fun i => (seen s i o 1).readied) n ≤ n * n := Nat.mul_le_mul_left _ (cnt_le _ _)
  have := h.k1
  have := h.k2
  have := h.k3
  have e : 2 * n * n = n * n + n * n := by rw [Nat.mul_assoc]; omega
  omega
theorem cnt_set {p q : Nat → Bool} {i n : Nat} (hi : i < n) (h : ∀ j, j ≠ i → q j = p j) : cnt q n + (if p i then 1 else 0) = cnt p n + (if q i then 1 else 0) := by
  induction n with
  | zero => omega
  | succ n ih =>
    unfold cnt
    by_cases e : i = n
    · subst e
      have : cnt q i = cnt p i := Nat.le_antisymm (cnt_mono fun j hj hq => by rw [← h j (by omega)]; exact hq) (cnt_mono fun j hj hq => by rw [h j (by omega)]; exact hq)
      omega
    · have := ih (by omega)
      rw [h n (fun x => e x.symm)]
      omega
theorem step_flags (n : Nat) (c : Cast) (m : Pkt) : ((step n c m).2.1 = true → reply m.kind = 2 → c.echoed = false ∧ (step n c m).1.echoed = true ∧ (step n c m).1.readied = c.readied) ∧
    ((step n c m).2.1 = true → reply m.kind = 3 → c.readied = false ∧ (step n c m).1.readied = true ∧ (step n c m).1.echoed = c.echoed) ∧
    ((step n c m).2.1 = false → (step n c m).1.readied = c.readied ∧ (step n c m).1.echoed = c.echoed) := by
  unfold step reply
  by_cases k1 : m.kind = 1
  · simp only [if_pos k1]
    by_cases he : c.echoed = true
    · simp [he]
    · simp [he]
  · simp only [if_neg k1]
    by_cases k2 : m.kind = 2
    · simp only [if_pos k2]
      by_cases he : voted c.echoes m.src = true
      · simp [he]
      · simp only [if_neg he]
        refine ⟨fun _ h => by simp at h, fun hs _ => ?_, fun hs => ?_⟩
        · rw [hs]; simp at hs; simp [hs.2]
        · rw [hs]; simp
    · simp only [if_neg k2]
      by_cases he : voted c.readies m.src = true
      · simp [he]
      · simp only [if_neg he]
        refine ⟨fun _ h => by simp at h, fun hs _ => ?_, fun hs => ?_⟩
        · rw [hs]; simp at hs; simp [hs.2]
        · rw [hs]; simp
theorem no_liar (n : Nat) : (bads n fun _ => false).length ≤ faults n := by
  unfold bads
  rw [List.filter_eq_nil_iff.2 (fun _ _ => Bool.false_ne_true)]
  exact Nat.zero_le _
theorem range_nil_casts {n o : Nat} {t : List UInt8} (ho : o < n) (i : Nat) : ((((List.range n).map fun _ => ([] : List (List UInt8))).set o [t]).getD i []) = if i = o then [t] else [] := by
  rw [List.getD_eq_getElem?_getD]
  by_cases e : i = o
  · subst e; rw [if_pos rfl, List.getElem?_set, if_pos rfl, if_pos (by simpa using ho)]; rfl
  · rw [if_neg e, List.getElem?_set_ne (fun x => e x.symm), List.getElem?_map]
    by_cases hi : i < n <;> simp [hi]
theorem filter_goes {n : Nat} {g : Grp} (hg : ∀ i, i < n → ∃ p, g.all[i]? = some (some p)) {i : Nat} {kd o k : Int} {t : List UInt8} : (all n i kd o k t).filter g.goes = all n i kd o k t := by
  refine List.filter_eq_self.2 fun m hm => ?_
  obtain ⟨j, hj, rfl⟩ := List.mem_map.1 hm
  obtain ⟨p, hp⟩ := hg j (List.mem_range.1 hj)
  exact goes_of rfl hp
theorem Cost.start {n o : Nat} (ho : o < n) (t : List UInt8) : Cost n o t 0 0 0 ((Grp.start n fun _ => false).say o t) := by
  have hget : ∀ i, i < n → (Grp.start n fun _ => false).all[i]? = some (some (Bra.start n i)) := fun i hi => by simp [Grp.start, hi]
  have hf := no_liar n
  have hH := (Hold.start n fun _ => false).say o t
  have e1 : ((Grp.start n fun _ => false).all[o]?).join = some (Bra.start n o) := by rw [hget o ho]; rfl
  have e2 : (Grp.start n fun _ => false).casts.getD o [] = [] := by
    show ((List.range n).map fun _ => ([] : List (List UInt8))).getD o [] = []
    rw [List.getD_eq_getElem?_getD, List.getElem?_map]; simp [ho]
  have e3 : (Grp.start n fun _ => false).say o t = (({ (Grp.start n fun _ => false).put o (bcast (Bra.start n o) t).1 with casts := (Grp.start n fun _ => false).casts.set o [t] } : Grp).send (bcast (Bra.start n o) t).2) := by
    unfold Grp.say
    rw [e1]
    dsimp only
    rw [e2, if_pos (by simp)]
    rfl
  have e4 : ((Grp.start n fun _ => false).say o t).pending = all n o 1 o 1 t := by
    rw [e3]
    show [] ++ (bcast (Bra.start n o) t).2.filter _ = _
    rw [List.nil_append]
    exact filter_goes (fun i hi => by
      by_cases e : o = i
      · subst e; exact ⟨_, put_at (hget o ho)⟩
      · exact ⟨_, by show ((Grp.start n fun _ => false).put o _).all[i]? = _; rw [put_ne e]; exact hget i hi⟩)
  have e5 : ∀ i a b, seen ((Grp.start n fun _ => false).say o t) i a b = fresh a b := fun i a b => by
    by_cases hi : i < n
    · by_cases e : o = i
      · subst e
        rw [seen_at (p := (bcast (Bra.start n o) t).1) (by rw [e3]; exact put_at (hget o ho))]; rfl
      · rw [seen_at (p := Bra.start n i) (by rw [e3]; show ((Grp.start n fun _ => false).put o _).all[i]? = _; rw [put_ne e]; exact hget i hi)]; rfl
    · unfold seen
      rw [List.getElem?_eq_none (by rw [hH.all]; omega)]; rfl
  have e6 : ∀ f : Cast → Bool, f (fresh o 1) = false → cnt (fun i => f (seen ((Grp.start n fun _ => false).say o t) i o 1)) n = 0 := fun f hf => by
    have : (fun i => f (seen ((Grp.start n fun _ => false).say o t) i o 1)) = fun _ => false := by funext i; rw [e5]; exact hf
    rw [this, cnt_no]
  refine ⟨hH, by rw [e3]; rfl, fun m hm => ?_, fun m hm => ?_, ?_, ?_, ?_⟩
  · rw [e4] at hm
    obtain ⟨j, -, rfl⟩ := List.mem_map.1 hm
    exact List.mem_cons_self
  · rw [e4] at hm
    obtain ⟨j, -, rfl⟩ := List.mem_map.1 hm
    exact ⟨by show (1 : Int) ≤ 1; omega, by show (1 : Int) ≤ 3; omega⟩
  · rw [e4, kindOf_all, if_pos rfl, Nat.zero_add]
  · rw [e4, kindOf_all, if_neg (by omega), e6 (·.echoed) rfl]; rfl
  · rw [e4, kindOf_all, if_neg (by omega), e6 (·.readied) rfl]; rfl
theorem Cost.take {n o : Nat} {t : List UInt8} {c1 c2 c3 : Nat} {s : Grp} (h : Cost n o t c1 c2 c3 s) {m : Pkt} {k : Nat} (hk : s.pending[k]? = some m) :
    Cost n o t (c1 + if m.kind = 1 then 1 else 0) (c2 + if m.kind = 2 then 1 else 0) (c3 + if m.kind = 3 then 1 else 0) (({ s with pending := s.pending.eraseIdx k } : Grp).receive m) := by
  have hf := no_liar n
  have hmem := List.mem_of_getElem? hk
  have hm3 := h.kinds m hmem
  have hmk := h.keys m hmem
  have hH := h.hold.take hf hk
  have q1 := kindOf_erase 1 hk
  have q2 := kindOf_erase 2 hk
  have q3 := kindOf_erase 3 hk
  have K := (h.keys.erase k).receive hmk
  have hmo : m.origin = o ∧ m.number = 1 := by simpa using hmk
  have p1 := h.k1
  have p2 := h.k2
  have p3 := h.k3
  revert hH K
  unfold Grp.receive
  rw [show ({ s with pending := s.pending.eraseIdx k } : Grp).at_ m.to = s.at_ m.to from rfl]
  cases hm : s.at_ m.to with
  | none =>
    intro hH K
    refine ⟨hH, h.casts, K, fun x hx => h.kinds x (List.mem_of_mem_eraseIdx hx), ?_, ?_, ?_⟩
    · show _ + kindOf 1 (s.pending.eraseIdx k) = _
      omega
    · show _ + kindOf 2 (s.pending.eraseIdx k) = n * cnt (fun i => (seen s i o 1).echoed) n
      omega
    · show _ + kindOf 3 (s.pending.eraseIdx k) = n * cnt (fun i => (seen s i o 1).readied) n
      omega
  | some p =>
    intro hH K
    obtain ⟨h0, hp⟩ := at_some hm
    obtain ⟨hl, pn, ps, -⟩ := h.hold.proc _ p hp
    dsimp only at hH K ⊢
    generalize hi : m.to.toNat = i at *
    have hin : i < n := by rw [← h.hold.all]; exact (List.getElem?_eq_some_iff.1 hp).1
    cases hv : valid p.n p.self m with
    | false =>
      rw [recv_bad hv] at hH K ⊢
      rw [put_same (s := { s with pending := s.pending.eraseIdx k }) hp, send_nil] at hH K ⊢
      refine ⟨hH, h.casts, K, fun x hx => h.kinds x (List.mem_of_mem_eraseIdx hx), ?_, ?_, ?_⟩
      · show _ + kindOf 1 (s.pending.eraseIdx k) = _
        omega
      · show _ + kindOf 2 (s.pending.eraseIdx k) = n * cnt (fun i => (seen s i o 1).echoed) n
        omega
      · show _ + kindOf 3 (s.pending.eraseIdx k) = n * cnt (fun i => (seen s i o 1).readied) n
        omega
    | true =>
      have hsee := seen_put (s := { s with pending := s.pending.eraseIdx k }) hp hv (recv p m).2
      rw [hmo.1, hmo.2] at hsee
      have hsi : seen s i o 1 = look p.casts o 1 := seen_at hp _ _
      have hsend : (recv p m).2 = if (step n (look p.casts o 1) m).2.1 then all n i (reply m.kind) o 1 m.payload else [] := by rw [recv_valid hv rfl, pn, ps, hmo.1, hmo.2]
      have hpend : ((({ s with pending := s.pending.eraseIdx k } : Grp).put i (recv p m).1).send (recv p m).2).pending = s.pending.eraseIdx k ++ (recv p m).2 := by
        show s.pending.eraseIdx k ++ (recv p m).2.filter _ = _
        congr 1
        rw [hsend]
        split
        · exact filter_goes (fun j hj => by
            by_cases e : i = j
            · subst e; exact ⟨_, put_at (s := { s with pending := s.pending.eraseIdx k }) hp⟩
            · obtain ⟨q, hq⟩ := h.hold.hon j hj rfl
              exact ⟨q, by rw [put_ne e]; exact hq⟩)
        · rfl
      obtain ⟨f1, f2, f3⟩ := step_flags n (look p.casts o 1) m
      have ce := cnt_set (p := fun j => (seen s j o 1).echoed) (q := fun j => (setC (seen s) i o 1 (step n (look p.casts o 1) m).1 j o 1).echoed) hin (fun j hj => by
        show (setC _ _ _ _ _ j o 1).echoed = _
        rw [setC_other (fun e => hj e.1)])
      have cr := cnt_set (p := fun j => (seen s j o 1).readied) (q := fun j => (setC (seen s) i o 1 (step n (look p.casts o 1) m).1 j o 1).readied) hin (fun j hj => by
        show (setC _ _ _ _ _ j o 1).readied = _
        rw [setC_other (fun e => hj e.1)])
      simp only [setC_same, hsi] at ce cr
      rw [pn] at hsee
      have hsee' : seen ((({ s with pending := s.pending.eraseIdx k } : Grp).put i (recv p m).1).send (recv p m).2) = setC (seen s) i o 1 (step n (look p.casts o 1) m).1 := hsee
      refine ⟨hH, h.casts, K, fun x hx => ?_, ?_, ?_, ?_⟩
      · rw [hpend] at hx
        rcases List.mem_append.1 hx with hx | hx
        · exact h.kinds x (List.mem_of_mem_eraseIdx hx)
        · rw [hsend] at hx
          split at hx
          · obtain ⟨j, -, rfl⟩ := List.mem_map.1 hx
            show 1 ≤ reply m.kind ∧ reply m.kind ≤ 3
            unfold reply
            split <;> omega
          · cases hx
      · rw [hpend, kindOf_append, hsend]
        have : kindOf 1 (if (step n (look p.casts o 1) m).2.1 then all n i (reply m.kind) o 1 m.payload else []) = 0 := by
          split
          · rw [kindOf_all, if_neg (by unfold reply; split <;> omega)]
          · rfl
        omega
      · rw [hpend, hsee', kindOf_append, hsend]
        by_cases hs : (step n (look p.casts o 1) m).2.1 = true
        · rw [if_pos hs, kindOf_all]
          by_cases hr : reply m.kind = 2
          · obtain ⟨g1, g2, g3⟩ := f1 hs hr
            rw [g1, g2] at ce
            simp only [Bool.false_eq_true, if_false, if_true, Nat.add_zero] at ce
            rw [if_pos hr, ce, Nat.mul_add, Nat.mul_one]
            omega
          · have hr3 : reply m.kind = 3 := by unfold reply at hr ⊢; split at hr <;> simp_all
            obtain ⟨g1, g2, g3⟩ := f2 hs hr3
            rw [g3] at ce
            have ce' := Nat.add_right_cancel ce
            rw [if_neg hr, ce']
            omega
        · obtain ⟨g1, g2⟩ := f3 (Bool.eq_false_iff.2 hs)
          rw [g2] at ce
          have ce' := Nat.add_right_cancel ce
          rw [if_neg hs, ce', show kindOf 2 [] = 0 from rfl]
          omega
      · rw [hpend, hsee', kindOf_append, hsend]
        by_cases hs : (step n (look p.casts o 1) m).2.1 = true
        · rw [if_pos hs, kindOf_all]
          by_cases hr : reply m.kind = 2
          · obtain ⟨g1, g2, g3⟩ := f1 hs hr
            rw [g3] at cr
            have cr' := Nat.add_right_cancel cr
            rw [if_neg (show ¬ reply m.kind = 3 by omega), cr']
            omega
          · have hr3 : reply m.kind = 3 := by unfold reply at hr ⊢; split at hr <;> simp_all
            obtain ⟨g1, g2, g3⟩ := f2 hs hr3
            rw [g1, g2] at cr
            simp only [Bool.false_eq_true, if_false, if_true, Nat.add_zero] at cr
            rw [if_pos hr3, cr, Nat.mul_add, Nat.mul_one]
            omega
        · obtain ⟨g1, g2⟩ := f3 (Bool.eq_false_iff.2 hs)
          rw [g1] at cr
          have cr' := Nat.add_right_cancel cr
          rw [if_neg hs, cr', show kindOf 3 [] = 0 from rfl]
          omega
theorem cnt_full {p : Nat → Bool} : ∀ {n : Nat}, (∀ i, i < n → p i = true) → cnt p n = n
  | 0, _ => rfl
  | n + 1, h => by unfold cnt; rw [cnt_full (fun i hi => h i (by omega)), if_pos (h n (by omega))]
/-- At its end. -/
theorem Cost.fin {n o : Nat} {t : List UInt8} {c1 c2 c3 : Nat} {s : Grp} (h : Cost n o t c1 c2 c3 s) (h1 : 1 ≤ n) (ho : o < n) (hq : s.pending = []) : c1 = n ∧ c2 = n * n ∧ c3 = n * n ∧ Agree s ∧ ∃ p d, s.all[0]? = some (some p) ∧ p.done = [d] := by
  have hf := no_liar n
  have hc := hon_few hf
  have hA := h.hold.agree h1 hf
  obtain ⟨E, R, hE, hR, hI⟩ := h.hold.inv
  have hI' := quiet_inv hI hq
  have hB : ∀ i, s.casts.getD i [] = if i = o then [t] else [] := fun i => by rw [h.casts]; exact range_nil_casts ho i
  have hon : ∀ i, i < n → isHon n (fun _ => false) i = true := fun i hi => isHon_iff.2 ⟨hi, rfl⟩
  have hBo : (s.casts.getD o [])[0]? = some t := by rw [hB, if_pos rfl]; rfl
  have he : ∀ i, i < n → (seen s i o 1).echoed = true := fun i hi => (hI'.li o 0 t i (hon o ho) hBo (hon i hi)).resolve_left id
  have hcnt : ∀ i, i < n → 2 * faults n + 1 ≤ count (seen s i o 1).readies t := fun i hi => quiet_cast hI' h1 hc h.hold.loc (hon o ho) hBo (hon i hi)
  have hr : ∀ i, i < n → (seen s i o 1).readied = true := fun i hi => (h.hold.loc i o 1).tr t (by have := hcnt i hi; omega)
  have p1 := h.k1
  have p2 := h.k2
  have p3 := h.k3
  rw [hq] at p1 p2 p3
  rw [cnt_full he] at p2
  rw [cnt_full hr] at p3
  obtain ⟨p, hp⟩ := h.hold.hon 0 (by omega) rfl
  refine ⟨by simpa [kindOf] using p1, by simpa [kindOf] using p2, by simpa [kindOf] using p3, hA, p, ?_⟩
  have hin : (⟨(o : Int), 1, t⟩ : Del) ∈ p.done := h.hold.done_of hf hp (hcnt 0 (by omega))
  have hall : ∀ d ∈ p.done, d.origin = (o : Int) ∧ d.number = 1 := fun d hd => by
    obtain ⟨a1, a2, a3⟩ := hA.rng 0 p d hp hd
    rw [h.hold.all] at a2
    obtain ⟨q, hqq⟩ := h.hold.hon d.origin.toNat (by omega) rfl
    have := hA.cast 0 p d q hp hd hqq
    rw [hB] at this
    split at this
    · rename_i e
      have hl := (List.getElem?_eq_some_iff.1 this).1
      simp at hl
      exact ⟨by omega, by omega⟩
    · simp at this
  have hnd := hA.once 0 p hp
  match hpd : p.done, hin, hall, hnd with
  | [d], _, _, _ => exact ⟨d, hp, rfl⟩
  | d :: e :: l, _, hall, hnd =>
    have hd := hall d List.mem_cons_self
    have he := hall e (List.mem_cons_of_mem _ List.mem_cons_self)
    rw [List.map_cons, List.nodup_cons] at hnd
    exact absurd (List.mem_map.2 ⟨e, List.mem_cons_self, by rw [hd.1, hd.2, he.1, he.2]⟩) hnd.1
end Bra

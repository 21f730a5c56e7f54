/-
  Unless two different parts match, Differ finds no prefix exactly for equal states, and each command that only one state has lies below exactly one of the prefixes.
-/
import Derived.Test.YtajohibeoicepaaDoorSyArg
import Derived.Test.YtajohibeoicepaaDoorSyAwk
import Derived.Test.YtajohibeoicepaaDoorSySta
import Derived.Test.YtajohibeoicepaaDoorSyEnc
import Derived.Test.YtajohibeoicepaaDoorSyRKid
import Derived.Test.YtajohibeoicepaaDoorSyHas
namespace Sy
theorem wsz_le {m : Nat} : ∀ {l : List Wt}, (∀ v ∈ l, v.object.length + v.delta.length ≤ m) → wsz l ≤ l.length * (m + 20)
  | [], _ => by simp [wsz]
  | x :: l, h => by
    have h1 := wsz_le (l := l) fun v hv => h v (List.mem_cons_of_mem _ hv)
    have h2 := h x List.mem_cons_self
    rw [List.length_cons, Nat.succ_mul]
    simp only [wsz]
    omega
/-- The commands of a state are small. -/
theorem State.csz {s : List Cm} (h : State s) : ∀ x ∈ s, csz x ≤ 1000 := by
  intro x hx
  obtain ⟨i, hi, rfl⟩ := List.getElem_of_mem hx
  obtain ⟨y, hy, ⟨h1, h2, h3⟩, -⟩ := h.2 i hi
  rw [List.getElem?_eq_getElem hi] at hy
  cases hy
  have h4 : wsz (s[i]).writes ≤ (s[i]).writes.length * (56 + 20) := wsz_le fun v hv => by
    obtain ⟨k, hk, rfl⟩ := List.getElem_of_mem hv
    have := h3 k _ (List.getElem?_eq_getElem hk)
    omega
  have h5 : (s[i]).writes.length * (56 + 20) ≤ 4 * (56 + 20) := Nat.mul_le_mul_right _ h1
  unfold Sy.csz
  omega
end Sy
namespace Go.Proofs.YtajohibeoicepaaDoor
open Go.RowKit Go.Pl
theorem bs_at {w : World} {S : Nat → Prop} {A : Option Addr} {n c k : Nat} {l : List (List UInt8)} {x : List UInt8} (h : RdE lBytes w S A n c l) (hx : l[k]? = some x) : ∃ b o A1 n1 c1, A = some ⟨b, o, none⟩ ∧ b < w.heap.size ∧ Rd w S A1 n1 c1 x ∧
    w.cell? ⟨b, o + k, none⟩ = some (.slice A1 n1 c1) := by
  obtain ⟨b, o, u, rfl, -, hb, ⟨A1, n1, c1, rfl, h1⟩, hc⟩ := h.get hx
  have h2 : w.cell? ⟨b, o + k * 1 + 0, none⟩ = _ := hc 0 _ rfl
  rw [Nat.mul_one, Nat.add_zero] at h2
  exact ⟨b, o, A1, n1, c1, rfl, hb, h1, h2⟩
end Go.Proofs.YtajohibeoicepaaDoor
namespace Sy
/-- The parts of a prefix do not match, unless they are the same. -/
def Good (a b : List Cm) (p : List UInt8) : Prop := same (dig a p) (dig b p) = true → (part p a).map enc = (part p b).map enc
/-- How many prefixes a command lies below. -/
def below (l : List (List UInt8)) (d : List UInt8) : Nat := l.countP fun p => p.isPrefixOf d
theorem part_filter {q p : List UInt8} (h : q <+: p) (s : List Cm) : part p s = (part q s).filter fun c => p.isPrefixOf (digs (enc c)) := by
  unfold part
  rw [List.filter_filter]
  refine List.filter_congr fun x _ => ?_
  by_cases hp : p.isPrefixOf (digs (enc x)) = true
  · rw [hp, List.isPrefixOf_iff_prefix.2 (h.trans (List.isPrefixOf_iff_prefix.1 hp))]; rfl
  · rw [Bool.eq_false_iff.2 hp]; rfl
theorem part_le {q p : List UInt8} (h : q <+: p) (s : List Cm) : (part p s).length ≤ (part q s).length := by
  rw [part_filter h]; exact List.length_filter_le _ _
theorem part_eq {q p : List UInt8} (h : q <+: p) {s : List Cm} (hl : (part p s).length = (part q s).length) : part p s = part q s := by
  rw [part_filter h] at hl ⊢
  exact List.filter_sublist.eq_of_length hl
theorem part_none {q p : List UInt8} (h : q <+: p) {s : List Cm} (h0 : (part q s).length = 0) : (part p s).length = 0 := by
  have := part_le h s
  omega
theorem good_nil {a b : List Cm} {p : List UInt8} (h : (part p a).length = 0 ∨ (part p b).length = 0) : Good a b p := by
  intro hs
  unfold same dig at hs
  rw [Bool.and_eq_true, decide_eq_true_iff] at hs
  have h1 : ((part p a).length : Int) = ((part p b).length : Int) := hs.1
  rw [List.eq_nil_of_length_eq_zero (show (part p a).length = 0 by omega), List.eq_nil_of_length_eq_zero (show (part p b).length = 0 by omega)]
theorem good_step {a b : List Cm} {q p : List UInt8} (h : q <+: p) (hl : (part p a).length + (part p b).length = (part q a).length + (part q b).length) (hg : Good a b q) : Good a b p := by
  have h1 := part_le h a
  have h2 := part_le h b
  have ea := part_eq h (s := a) (by omega)
  have eb := part_eq h (s := b) (by omega)
  unfold Good same dig at hg ⊢
  simp only [ea, eb]
  exact hg
theorem good_all {a b : List Cm} {d : List UInt8} (h : ∀ n, n ≤ d.length → Good a b (d.take n)) {p : List UInt8} (hp : p <+: d) : Good a b p := by
  rw [List.prefix_iff_eq_take.1 hp]
  exact h _ hp.length_le
theorem good_any {a b : List Cm} (ha : ∀ x ∈ a, ∀ p, p <+: digs (enc x) → Good a b p) (p : List UInt8) : Good a b p := by
  cases h1 : part p a with
  | nil => exact good_nil (.inl (by rw [h1]; rfl))
  | cons x r =>
    have := mem_part.1 (show x ∈ part p a by rw [h1]; exact List.mem_cons_self)
    exact ha x this.1 p this.2
theorem diff_pre : ∀ (m : Nat) (a b : List Cm) (p : List UInt8), ∀ q ∈ diff m a b p, p <+: q
  | 0, _, _, _, q, h => by simp [diff] at h
  | m + 1, a, b, p, q, h => by
    rw [diff] at h
    split at h
    · cases h
    · split at h
      · rw [List.mem_singleton.1 h]; exact List.prefix_refl _
      · rw [List.mem_flatMap] at h
        obtain ⟨i, -, h⟩ := h
        exact (List.prefix_append p [UInt8.ofNat i]).trans (diff_pre m a b _ q h)
theorem below_zero {l : List (List UInt8)} {p d : List UInt8} (h : ∀ q ∈ l, p <+: q) (hp : ¬ p <+: d) : below l d = 0 := by
  unfold below
  rw [List.countP_eq_zero]
  intro q hq h1
  exact hp ((h q hq).trans (List.isPrefixOf_iff_prefix.1 h1))
theorem below_flat (f : Nat → List (List UInt8)) (d : List UInt8) : ∀ k, below ((List.range k).flatMap f) d = sumK (fun i => below (f i) d) k
  | 0 => rfl
  | k + 1 => by
    have := below_flat f d k
    unfold below at this ⊢
    rw [List.range_succ, List.flatMap_append, List.countP_append, this]
    simp [sumK]
theorem sumK_one {f : Nat → Nat} {j : Nat} (h1 : f j = 1) : ∀ k, (∀ i, i < k → i ≠ j → f i = 0) → sumK f k = if j < k then 1 else 0
  | 0, _ => by simp [sumK]
  | k + 1, h => by
    rw [sumK, sumK_one h1 k (fun i hi => h i (by omega))]
    by_cases hk : k = j
    · subst hk
      rw [if_neg (by omega), if_pos (by omega), h1]
    · rw [h k (by omega) hk]
      by_cases hj : j < k
      · rw [if_pos hj, if_pos (by omega)]
      · rw [if_neg hj, if_neg (by omega)]
theorem map_mem {a b : List Cm} {x : Cm} (hb : ∀ y ∈ b, OkCm y) (hx : OkCm x) (h : a.map enc = b.map enc) (h1 : x ∈ a) : x ∈ b := by
  have h2 : enc x ∈ b.map enc := h ▸ List.mem_map_of_mem h1
  obtain ⟨y, hy, he⟩ := List.mem_map.1 h2
  rw [← enc_inj (hb y hy) hx he]
  exact hy
/-- A command that one state alone has lies below exactly one prefix. -/
theorem diff_one {a b : List Cm} (ha : State a) (hb : State b) (hg : ∀ p, Good a b p) {x : Cm} (hx : (x ∈ a ∧ x ∉ b) ∨ (x ∉ a ∧ x ∈ b)) : ∀ (m : Nat) (p : List UInt8), p.length + m = 2002 → p <+: digs (enc x) → below (diff m a b p) (digs (enc x)) = 1
  | m, p, hm, hp => by
    have hok : OkCm x := hx.elim (fun h => ha.ok x h.1) (fun h => hb.ok x h.2)
    have hsz : csz x ≤ 1000 := hx.elim (fun h => ha.csz x h.1) (fun h => hb.csz x h.2)
    have hd : (digs (enc x)).length ≤ 2000 := by
      rw [length_digs]
      have := length_enc x
      omega
    have hpd := hp.length_le
    match m, hm with
    | 0, hm => omega
    | m + 1, hm =>
      rw [diff]
      split
      · rename_i hs
        have hmap := hg p hs
        exfalso
        rcases hx with ⟨h1, h2⟩ | ⟨h1, h2⟩
        · exact h2 (part_sub (map_mem (fun y hy => hb.ok y (part_sub hy)) hok hmap (mem_part.2 ⟨h1, hp⟩)))
        · exact h1 (part_sub (map_mem (fun y hy => ha.ok y (part_sub hy)) hok hmap.symm (mem_part.2 ⟨h2, hp⟩)))
      · split
        · unfold below
          rw [List.countP_cons, if_pos (List.isPrefixOf_iff_prefix.2 hp)]
          rfl
        · rename_i h4
          have hlong : p.length < (digs (enc x)).length := by
            rcases hx with ⟨h1, _⟩ | ⟨_, h2⟩
            · exact ha.long (by omega) x (mem_part.2 ⟨h1, hp⟩)
            · exact hb.long (by omega) x (mem_part.2 ⟨h2, hp⟩)
          obtain ⟨t, ht⟩ := hp
          cases t with
          | nil => rw [← ht] at hlong; simp at hlong
          | cons y t =>
            have hy : y.toNat < 16 := digs_small (l := enc x) y (by rw [← ht]; simp)
            rw [below_flat, sumK_one (j := y.toNat) ?_ 16 ?_, if_pos hy]
            · rw [UInt8.ofNat_toNat]
              exact diff_one ha hb hg hx m (p ++ [y]) (by simp; omega) ⟨t, by rw [← ht]; simp⟩
            · intro i hi hne
              refine below_zero (diff_pre m a b _) ?_
              rintro ⟨s, hs⟩
              rw [← ht, List.append_assoc] at hs
              have h1 := List.append_cancel_left hs
              simp only [List.cons_append, List.nil_append, List.cons.injEq] at h1
              refine hne ?_
              rw [← h1.1, UInt8.toNat_ofNat']
              omega
theorem State.sorted {s : List Cm} (h : State s) : s.Pairwise (fun x y => cmp x y < 0) := by
  rw [List.pairwise_iff_getElem]
  intro i j hi hj hij
  exact h.lt j i _ _ hij (List.getElem?_eq_getElem hi) (List.getElem?_eq_getElem hj)
theorem sorted_eq : ∀ {a b : List Cm}, a.Pairwise (fun x y => cmp x y < 0) → b.Pairwise (fun x y => cmp x y < 0) → (∀ x, x ∈ a ↔ x ∈ b) → a = b
  | [], [], _, _, _ => rfl
  | [], y :: _, _, _, h => by have := (h y).2 List.mem_cons_self; cases this
  | x :: _, [], _, _, h => by have := (h x).1 List.mem_cons_self; cases this
  | x :: a, y :: b, ha, hb, h => by
    rw [List.pairwise_cons] at ha hb
    have e : x = y := by
      rcases List.mem_cons.1 ((h x).1 List.mem_cons_self) with h1 | h1
      · exact h1
      · rcases List.mem_cons.1 ((h y).2 List.mem_cons_self) with h2 | h2
        · exact h2.symm
        · exact absurd (cmp_trans (hb.1 x h1) (ha.1 y h2)) (cmp_irrefl y)
    subst e
    rw [sorted_eq ha.2 hb.2 fun z => ⟨fun hz => ?_, fun hz => ?_⟩]
    · rcases List.mem_cons.1 ((h z).1 (List.mem_cons_of_mem _ hz)) with h1 | h1
      · rw [h1] at hz; exact absurd (ha.1 x hz) (cmp_irrefl x)
      · exact h1
    · rcases List.mem_cons.1 ((h z).2 (List.mem_cons_of_mem _ hz)) with h1 | h1
      · rw [h1] at hz; exact absurd (hb.1 x hz) (cmp_irrefl x)
      · exact h1
theorem map_eq : ∀ {a b : List Cm}, (∀ x ∈ a, OkCm x) → (∀ x ∈ b, OkCm x) → a.map enc = b.map enc → a = b
  | [], [], _, _, _ => rfl
  | [], _ :: _, _, _, h => by simp at h
  | _ :: _, [], _, _, h => by simp at h
  | x :: a, y :: b, ha, hb, h => by
    simp only [List.map_cons, List.cons.injEq] at h
    rw [enc_inj (ha x List.mem_cons_self) (hb y List.mem_cons_self) h.1, map_eq (fun z hz => ha z (List.mem_cons_of_mem _ hz)) (fun z hz => hb z (List.mem_cons_of_mem _ hz)) h.2]
/-- No prefix is found exactly where the states are the same. -/
theorem diff_none {a b : List Cm} (ha : State a) (hb : State b) (hg : ∀ p, Good a b p) : (diff 2002 a b []).length = 0 ↔ a.map enc = b.map enc := by
  constructor
  · intro h
    have h0 := List.eq_nil_of_length_eq_zero h
    have key : ∀ x, ¬ ((x ∈ a ∧ x ∉ b) ∨ (x ∉ a ∧ x ∈ b)) := fun x hx => by
      have := diff_one ha hb hg hx 2002 [] rfl List.nil_prefix
      rw [h0] at this
      simp [below] at this
    rw [sorted_eq ha.sorted hb.sorted fun x => ⟨fun h1 => Classical.byContradiction fun h2 => key x (.inl ⟨h1, h2⟩), fun h1 => Classical.byContradiction fun h2 => key x (.inr ⟨h2, h1⟩)⟩]
  · intro h
    obtain rfl := map_eq ha.ok hb.ok h
    rw [diff, if_pos (by simp [same])]
    rfl
theorem has_iff {a : List Cm} (ha : State a) {x : Cm} (hx : OkCm x) : (a.any fun y => enc y == enc x) = true ↔ x ∈ a := by
  rw [List.any_eq_true]
  constructor
  · rintro ⟨y, hy, he⟩
    rw [← enc_inj (ha.ok y hy) hx (eq_of_beq he)]
    exact hy
  · exact fun h => ⟨x, h, by simp⟩
theorem below_take {l : List (List UInt8)} {d q : List UInt8} {k : Nat} (h : l[k]? = some q) : below (l.take (k + 1)) d = below (l.take k) d + if q.isPrefixOf d = true then 1 else 0 := by
  obtain ⟨h1, rfl⟩ := List.getElem?_eq_some_iff.1 h
  unfold below
  rw [List.take_succ_eq_append_getElem h1, List.countP_append]
  simp [List.countP_cons]
theorem below_len (l : List (List UInt8)) (d : List UInt8) : below l d ≤ l.length := List.countP_le_length
end Sy
namespace Sy
/-- The commands of the parts of the first m digits. -/
def two (a b : List Cm) (d : List UInt8) (m : Nat) : Nat := (part (d.take m) a).length + (part (d.take m) b).length
/-- The number that was noted at the digits before. -/
def Noted (a b : List Cm) (d : List UInt8) (j : Nat) (Z : Int) : Prop := (j = 0 ∧ Z = -1) ∨ ∃ i, j = i + 1 ∧ Z = (two a b d i : Int)
theorem take_pre (d : List UInt8) {i j : Nat} (h : i ≤ j) : d.take i <+: d.take j := by
  have e : d.take i = (d.take j).take i := by rw [List.take_take, Nat.min_eq_left h]
  rw [e]
  exact List.take_prefix _ _
theorem noted_good {a b : List Cm} {d : List UInt8} {j : Nat} {Z : Int} (h : Noted a b d j Z) (hz : (two a b d j : Int) = Z) (hg : ∀ m, m < j → Good a b (d.take m)) : Good a b (d.take j) := by
  rcases h with ⟨_, h⟩ | ⟨i, rfl, h⟩
  · omega
  · refine good_step (take_pre d (Nat.le_succ i)) ?_ (hg i (Nat.lt_succ_self i))
    unfold two at hz h
    omega
theorem lt_ext {P : Nat → Prop} {j : Nat} (h : ∀ m, m < j → P m) (hj : P j) : ∀ m, m < j + 1 → P m := fun m hm => by
  by_cases e : m = j
  · rw [e]; exact hj
  · exact h m (by omega)
theorem good_from {a b : List Cm} {d : List UInt8} {j : Nat} (h : ∀ m, m < j + 1 → Good a b (d.take m)) (h0 : (part (d.take j) a).length = 0 ∨ (part (d.take j) b).length = 0) {q : List UInt8} (hq : q <+: d) : Good a b q := by
  refine good_all (fun n _ => ?_) hq
  by_cases hn : n < j + 1
  · exact h n hn
  · exact good_nil (h0.imp (part_none (take_pre d (by omega))) (part_none (take_pre d (by omega))))
end Sy
namespace Go.Proofs.YtajohibeoicepaaDoor
open Go.RowKit Go.Pl
theorem wpq_slice_to {P : Program} {ops : Array Oper} {rest : List Oper} {o : Oper} {a : Act} {C : World → Prop} {R : Act → Prop} (hgd : Region.wanted o (yielded ops a.tmps) = true) (t : TypeId) (x y : Operand) (ho : o.op = .slice t x none (some y) none) (e : TypeId) (sz : Nat) (ht : P.underlying t = some (.slice e)) (hi : (P.info? e).map (·.size) = some sz)
    (A : Option Addr) (n c : Nat) (hx : a.eval x = .slice A n c) (kl : IntKind) (k : Nat) (hy : a.eval y = .int kl (k : Int)) (hk : k ≤ c)
    (h : wpQuiet P ops C R rest (a.put o.dst (.slice A k c))) : wpQuiet P ops C R (o :: rest) a :=
  BigFrame.wpQuiet_want hgd fun K hK => ⟨_, fun w hw => by
    unfold Oper.quietAt execOp
    simp only [ho, hx, Option.map_some, Option.map_none, hy, Sem.run_bind, run_sliceAt_toz t e sz ht hi A n c k kl hk, Result.andThen_ok, Sem.run_pure]
    exact ⟨rfl, rfl⟩, hK _ h⟩
set_option maxRecDepth 100000 in
set_option maxHeartbeats 8000000 in
theorem clash_any (a b s : List Sy.Cm) (w : World) {A1 A2 A3 : Option Addr} {n1 c1 n2 c2 n3 c3 : Nat} (ha : RdE lCm w (fun i => i < w.heap.size) A1 n1 c1 a) (hb : RdE lCm w (fun i => i < w.heap.size) A2 n2 c2 b) (hs : RdE lCm w (fun i => i < w.heap.size) A3 n3 c3 s)
    (hn1 : n1 ≤ 16) (hn2 : n2 ≤ 16) (hn3 : n3 ≤ 16) (hza : ∀ x ∈ a, Sy.csz x ≤ 1000) (hzb : ∀ x ∈ b, Sy.csz x ≤ 1000) (hzs : ∀ x ∈ s, Sy.csz x ≤ 1000) :
    Calls Tryd.prog 45 #[.slice A1 n1 c1, .slice A2 n2 c2, .slice A3 n3 c3] w fun e w' => ∃ r : Bool, e = .returned (.bool r) ∧ (r = false → ∀ x ∈ s, ∀ q, q <+: Sy.digs (Sy.enc x) → Sy.Good a b q) ∧ Below w.heap.size w w' := by
  have upA : Hid (∀ w', Below w.heap.size w w' → RdE lCm w' (fun i => i < w'.heap.size) A1 n1 c1 a) := fun w' h => (ha.fr (Fr.of_below (F := fun _ => False) h) (fun _ _ h => h)).mono (fun i hi _ => hi)
  have upB : Hid (∀ w', Below w.heap.size w w' → RdE lCm w' (fun i => i < w'.heap.size) A2 n2 c2 b) := fun w' h => (hb.fr (Fr.of_below (F := fun _ => False) h) (fun _ _ h => h)).mono (fun i hi _ => hi)
  have hsd := Lib.hid hs
  have hsl := Lib.hid hs.len
  have hnd := Lib.hid (And.intro hn1 (And.intro hn2 hn3))
  have hzad : Hid (∀ x ∈ a, Sy.csz x ≤ 30000000) := fun x h => Nat.le_trans (hza x h) (by decide)
  have hzbd : Hid (∀ x ∈ b, Sy.csz x ≤ 30000000) := fun x h => Nat.le_trans (hzb x h) (by decide)
  have hzsd := Lib.hid hzs
  have hal := Lib.hid ha.len
  have hbl := Lib.hid hb.len
  clear ha hb hs hn1 hn2 hza hzb hzs
  go_enter Tryd.func45, Tryd.ntmps45
  go_wp2_with fail
  go_loopw [7] (fun t wr => ∃ k : Nat, k ≤ n3 ∧ t = .int .i64 (k : Int) ∧ (∀ x ∈ s.take k, ∀ q, q <+: Sy.digs (Sy.enc x) → Sy.Good a b q) ∧ Below w.heap.size w wr) (fun t _ => n3 - (intOf t).toNat)
  case atStart => exact ⟨0, Nat.zero_le _, rfl, (fun x hx => by simp at hx), Below.refl _ _⟩
  case round =>
    obtain ⟨k, hk, rfl, hg, hb⟩ := hrel
    have hgd := Lib.hid hg
    have hbr := Lib.hid hb
    clear hg hb
    by_cases hlt : k < n3
    · have hka : k < s.length := by have := hsl.out; omega
      obtain ⟨x, hx⟩ : ∃ x, s[k]? = some x := ⟨_, List.getElem?_eq_getElem hka⟩
      obtain ⟨b0, o0, E1, r1, t1, G1, m1, y1, rfl, hbl0, hxr1, hxr2, hcg⟩ := cm_at (hsd.out.fr (Fr.of_below (F := fun _ => False) hbr.out) (fun _ _ h => h)) hx
      have e0 : wr.cell? ⟨b0, o0 + k * 6, none⟩ = some (.int .i64 x.client) := hcg 0 _ rfl
      have e1 : wr.cell? ⟨b0, o0 + k * 6 + 1, none⟩ = some (.int .i64 x.seq) := hcg 1 _ rfl
      have e2 : wr.cell? ⟨b0, o0 + k * 6 + 2, none⟩ = some (.int .i64 x.kind) := hcg 2 _ rfl
      have e3 : wr.cell? ⟨b0, o0 + k * 6 + 3, none⟩ = some (.slice E1 r1 t1) := hcg 3 _ rfl
      have e4 : wr.cell? ⟨b0, o0 + k * 6 + 4, none⟩ = some (.int .i64 x.replica) := hcg 4 _ rfl
      have e5 : wr.cell? ⟨b0, o0 + k * 6 + 5, none⟩ = some (.slice G1 m1 y1) := hcg 5 _ rfl
      have hzx : Hid (Sy.csz x ≤ 1000) := hzsd.out x (List.mem_of_getElem? hx)
      have hstep : Hid ((∀ q, q <+: Sy.digs (Sy.enc x) → Sy.Good a b q) → ∀ z ∈ s.take (k + 1), ∀ q, q <+: Sy.digs (Sy.enc z) → Sy.Good a b q) := by
        intro h z hz
        obtain ⟨hk2, hx2⟩ := List.getElem?_eq_some_iff.1 hx
        rw [List.take_succ_eq_append_getElem hk2, hx2, List.mem_append, List.mem_singleton] at hz
        rcases hz with hz | rfl
        · exact hgd.out z hz
        · exact h
      have hxr1d := Lib.hid hxr1
      have hxr2d := Lib.hid hxr2
      have hltd := Lib.hid hlt
      clear hcg hx hbl0 hxr1 hxr2 hka
      go_wp2_with fail
      clear e0 e1 e2 e3 e4 e5
      refine (digits_r x wr (hxr1d.out.mono (fun _ _ _ => trivial)) (hxr2d.out.mono (fun _ _ _ => trivial)) (Nat.le_trans hzx.out (by decide))).mono ?_
      rintro e w1 ⟨D, L, dk, rfl, hrd, hb1⟩
      have hbw1 : Hid (Below w.heap.size w w1) := hbr.out.trans (hb1.mono hbr.out.size)
      obtain ⟨d, hd⟩ : ∃ d, Sy.digs (Sy.enc x) = d := ⟨_, rfl⟩
      rw [hd] at hrd hstep
      have upD : Hid (∀ w', Below w1.heap.size w1 w' → Rd w' (fun i => i < w'.heap.size) D L dk d) := fun w' h => (hrd.fr (Fr.of_below (F := fun _ => False) h) (fun _ _ h => h)).mono (fun i hi _ => hi)
      have hL : Hid (L ≤ 2000) := by
        have h1 := hrd.len
        rw [← hd, Sy.length_digs] at h1
        have := Sy.length_enc x
        have := hzx.out
        show _ ≤ _
        omega
      have hL2 : L ≤ 2000 := hL.out
      have hLd := Lib.hid hrd.len
      have hLc := Lib.hid hrd.le
      clear hrd hb1 hd
      go_wp2_with fail
      go_loopw [10, 9] (fun t u wr => ∃ (j : Nat) (Z : Int), j ≤ L + 1 ∧ t = .int .i64 (j : Int) ∧ u = .int .i64 Z ∧ Sy.Noted a b d j Z ∧ (∀ m, m < j → Sy.Good a b (d.take m)) ∧ Below w1.heap.size w1 wr) (fun t _ _ => L + 1 - (intOf t).toNat)
      case atStart => exact ⟨0, -1, by omega, rfl, rfl, .inl ⟨rfl, rfl⟩, (fun m hm => by omega), Below.refl _ _⟩
      case round =>
        obtain ⟨j, Z, hj, rfl, rfl, hZ, hgj, hb⟩ := hrel
        have hZd := Lib.hid hZ
        have hgjd := Lib.hid hgj
        have hbj := Lib.hid hb
        clear hZ hgj hb
        by_cases hjl : j ≤ L
        · have hjc : j ≤ dk := by have := hLc.out; omega
          have hjld := Lib.hid hjl
          go_wp2_with fail
          refine wp_region_late Ab Ab.refl Ab.trans [] (.one [0, 1, 2, 5, 6, 7] [3, 8] 4 (.one [] [] 9 (.last [10, 11] []))) (by kernel_rfl) (by kernel_rfl) (fun _ _ _ _ _ h => h) ?_
          simp only [wpSchV, ordPick, Option.toList_some, List.cons_append, List.nil_append, List.getElem?_cons_succ, List.getElem?_cons_zero]
          have hbd2 : Hid (Ab wr wr.drew) := ab_drew wr
          obtain ⟨w7, hw7⟩ : ∃ w7, wr.drew = w7 := ⟨_, rfl⟩
          rw [hw7] at hbd2 ⊢
          clear hw7
          have hb17 : Hid (Below w1.heap.size w1 w7) := hbj.out.trans (hbd2.out.mono hbj.out.size)
          have hbw7 : Hid (Below w.heap.size w w7) := hbw1.out.trans (hb17.out.mono hbw1.out.size)
          iterate 6 (go_big_quiet_step (exact fun _ => rfl))
          refine wpQuiet_nil ?_
          refine wpq_slice_to rfl 23 (.tmp 31) (.tmp 32) rfl 5 1 Tryd.underlying23 (by kernel_rfl) _ L dk rfl .i64 j rfl hjc ?_
          simp only [Act.put, List.setIfInBounds_toArray, List.set_cons_succ, List.set_cons_zero]
          refine wpq_slice_to rfl 23 (.tmp 36) (.tmp 37) rfl 5 1 Tryd.underlying23 (by kernel_rfl) _ L dk rfl .i64 j rfl hjc ?_
          simp only [Act.put, List.setIfInBounds_toArray, List.set_cons_succ, List.set_cons_zero]
          refine wpQuiet_nil ?_
          go_wp2_with fail
          refine (rpart_any w7 (S := fun i => i < w7.heap.size) (fun i h => h) (upA.out _ hbw7.out) (by have := hnd.out.1; omega) hzad.out ((upD.out _ hb17.out).to hjld.out)).mono ?_
          rintro e w8 ⟨A5, n5, c5, rfl, hr5, hb8⟩
          have hb78 : Hid (Ab w7 w8) := hb8
          have hb18 : Hid (Below w1.heap.size w1 w8) := hb17.out.trans (hb8.mono hb17.out.size)
          have hbw8 : Hid (Below w.heap.size w w8) := hbw1.out.trans (hb18.out.mono hbw1.out.size)
          have hr5d := Lib.hid hr5
          have hl5 := Lib.hid hr5.len
          clear hr5 hb8
          go_wp2_with fail
          refine And.intro (.inr hb78.out) ?_
          simp only
          refine wpQuiet_nil (wpQuiet_nil ?_)
          go_wp2_with fail
          refine (rpart_any w8 (S := fun i => i < w8.heap.size) (fun i h => h) (upB.out _ hbw8.out) (by have := hnd.out.2.1; omega) hzbd.out ((upD.out _ hb18.out).to hjld.out)).mono ?_
          rintro e w9 ⟨A6, n6, c6, rfl, hr6, hb9⟩
          have hb89 : Hid (Ab w8 w9) := hb9
          have hb19 : Hid (Below w1.heap.size w1 w9) := hb18.out.trans (hb9.mono hb18.out.size)
          have hbw9 : Hid (Below w.heap.size w w9) := hbw1.out.trans (hb19.out.mono hbw1.out.size)
          have hr5e : Hid (RdE lCm w9 (fun _ => True) A5 n5 c5 (Sy.part (d.take j) a)) := (hr5d.out.fr (Fr.of_below (F := fun _ => False) hb89.out) (fun _ _ h => h)).mono (fun _ _ _ => trivial)
          have hr6d := Lib.hid hr6
          have hl6 := Lib.hid hr6.len
          have hn5 : n5 ≤ 16 := by have := hl5.out; have := Sy.part_len (d.take j) a; have := hal.out; have := hnd.out.1; omega
          have hn6 : n6 ≤ 16 := by have := hl6.out; have := Sy.part_len (d.take j) b; have := hbl.out; have := hnd.out.2.1; omega
          have htwo : Hid (Sy.two a b d j = n5 + n6) := by show _ = _; rw [hl5.out, hl6.out]; rfl
          have hadd : IntKind.i64.wrap ((n5 : Int) + (n6 : Int)) = (n5 : Int) + (n6 : Int) := by rw [IntKind.wrap_i64]; omega
          have hn5d := Lib.hid (And.intro hn5 hn6)
          clear hr6 hb9 hr5d hn5 hn6
          by_cases hz : (n5 : Int) + (n6 : Int) = Z
          · have hzb : ((n5 : Int) + (n6 : Int) == Z) = true := by rw [hz]; simp
            have hzd := Lib.hid hz
            subst hz
            go_wp2_with fail
            refine And.intro (.inr hb89.out) ?_
            simp only
            iterate 2 (go_big_quiet_step (exact fun _ => rfl))
            refine wpQuiet_nil (wpQuiet_nil ?_)
            go_wp2_with fail
            go_roundw
            case rel =>
              have hz2 : ((Sy.two a b d j : Nat) : Int) = (n5 : Int) + (n6 : Int) := by rw [htwo.out]; omega
              exact ⟨j + 1, (n5 : Int) + (n6 : Int), by omega, by go_num, rfl, .inr ⟨j, rfl, hz2.symm⟩, Sy.lt_ext hgjd.out (Sy.noted_good hZd.out hz2 hgjd.out), hb19.out⟩
            case measure => have hkl := hltd.out; simp [intOf]; omega
          · have hzb : ((n5 : Int) + (n6 : Int) == Z) = false := by simpa using hz
            go_wp2_with fail
            refine And.intro (.inr hb89.out) ?_
            simp only
            iterate 2 (go_big_quiet_step (exact fun _ => rfl))
            refine wpQuiet_nil (wpQuiet_nil ?_)
            go_wp2_with fail
            refine wp_region_late Ab Ab.refl Ab.trans [] (.one [0, 1] [] 2 (.one [3, 4, 5, 6, 7, 10, 11, 12] [8, 13] 9 (.one [] [] 14 (.one [] [] 15 (.last [16] []))))) (by kernel_rfl) (by kernel_rfl) (fun _ _ _ _ _ h => h) ?_
            simp only [wpSchV, ordPick, Option.toList_some, List.cons_append, List.nil_append, List.getElem?_cons_succ, List.getElem?_cons_zero]
            have hbd3 : Hid (Ab w9 w9.drew) := ab_drew w9
            obtain ⟨v1, hv1⟩ : ∃ v1, w9.drew = v1 := ⟨_, rfl⟩
            rw [hv1] at hbd3 ⊢
            clear hv1
            have hb1v : Hid (Below w1.heap.size w1 v1) := hb19.out.trans (hbd3.out.mono hb19.out.size)
            iterate 2 (go_big_quiet_step (exact fun _ => rfl))
            refine wpQuiet_nil (wpQuiet_nil ?_)
            go_wp2_with fail
            refine (slist_any (Sy.part (d.take j) a) (Sy.part (d.take j) b) v1 (hr5e.out.fr (Fr.of_below (F := fun _ => False) hbd3.out) (fun _ _ h => h)) ((hr6d.out.fr (Fr.of_below (F := fun _ => False) hbd3.out) (fun _ _ h => h)).mono (fun _ _ _ => trivial)) (by have := hn5d.out.1; omega) (fun z h => hzad.out z (Sy.part_sub h)) (fun z h => hzbd.out z (Sy.part_sub h))).mono ?_
            rintro e v2 ⟨rfl, hc2⟩
            have hc12 : Hid (Ab v1 v2) := hc2
            have hb2v : Hid (Below w1.heap.size w1 v2) := hb1v.out.trans (hc2.mono hb1v.out.size)
            have hbwv : Hid (Below w.heap.size w v2) := hbw1.out.trans (hb2v.out.mono hbw1.out.size)
            clear hc2
            by_cases hm : (Sy.part (d.take j) a).map Sy.enc = (Sy.part (d.take j) b).map Sy.enc
            · have hgj2 := Lib.hid (Sy.lt_ext (P := fun m => Sy.Good a b (d.take m)) hgjd.out (fun _ => hm))
              rw [show ((Sy.part (d.take j) a).map Sy.enc == (Sy.part (d.take j) b).map Sy.enc) = true by rw [hm]; simp]
              clear hm
              go_wp2_with fail
              refine And.intro (.inr hc12.out) ?_
              simp only
              iterate 8 (go_big_quiet_step (exact fun _ => rfl))
              refine wpQuiet_nil ?_
              iterate 2 (go_big_quiet_step (exact fun _ => rfl))
              refine wpQuiet_nil ?_
              go_wp2_with fail
              refine And.intro (.inr (Ab.refl _)) ?_
              simp only
              refine wpQuiet_nil (wpQuiet_nil ?_)
              go_wp2_with fail
              refine And.intro (.inr (Ab.refl _)) ?_
              simp only
              refine wpQuiet_nil (wpQuiet_nil ?_)
              go_wp2_with fail
              refine And.intro (.inr (Ab.refl _)) ?_
              simp only
              iterate 1 (go_big_quiet_step (exact fun _ => rfl))
              refine wpQuiet_nil (wpQuiet_nil ?_)
              have hbwz : Hid (Below w.heap.size w v2) := hbw1.out.trans (hb2v.out.mono hbw1.out.size)
              by_cases h0 : n5 = 0
              · have h0I : (n5 : Int) = 0 := by omega
                have h0b : ((n5 : Int) == 0) = true := by rw [h0I]; rfl
                have hl0 : Hid ((Sy.part (d.take j) a).length = 0) := by have := hl5.out; show _ = _; omega
                go_wp2_with fail
                go_roundw
                case rel =>
                  have hkl := hltd.out
                  exact ⟨k + 1, by have := hltd.out; omega, by go_num, hstep.out fun q hq => Sy.good_from hgj2.out (.inl hl0.out) hq, hbwz.out⟩
                case measure => have hkl := hltd.out; simp [intOf]; omega
              · have h0I : ¬ (n5 : Int) = 0 := by omega
                have h0b : ((n5 : Int) == 0) = false := by simpa using h0I
                by_cases h1 : n6 = 0
                · have h1I : (n6 : Int) = 0 := by omega
                  have h1b : ((n6 : Int) == 0) = true := by rw [h1I]; rfl
                  have hl0 : Hid ((Sy.part (d.take j) b).length = 0) := by have := hl6.out; show _ = _; omega
                  go_wp2_with fail
                  go_roundw
                  case rel =>
                    have hkl := hltd.out
                    exact ⟨k + 1, by have := hltd.out; omega, by go_num, hstep.out fun q hq => Sy.good_from hgj2.out (.inr hl0.out) hq, hbwz.out⟩
                  case measure => have hkl := hltd.out; simp [intOf]; omega
                · have h1I : ¬ (n6 : Int) = 0 := by omega
                  have h1b : ((n6 : Int) == 0) = false := by simpa using h1I
                  go_wp2_with fail
                  go_roundw
                  case rel =>
                    have hz2 : ((Sy.two a b d j : Nat) : Int) = (n5 : Int) + (n6 : Int) := by rw [htwo.out]; omega
                    exact ⟨j + 1, (n5 : Int) + (n6 : Int), by omega, by go_num, rfl, .inr ⟨j, rfl, hz2.symm⟩, hgj2.out, hb2v.out⟩
                  case measure => have hkl := hltd.out; simp [intOf]; omega
            · have hmf : ((Sy.part (d.take j) a).map Sy.enc == (Sy.part (d.take j) b).map Sy.enc) = false := by simpa using hm
              rw [hmf]
              clear hm hmf
              go_wp2_with fail
              refine And.intro (.inr hc12.out) ?_
              simp only
              iterate 5 (go_big_quiet_step (exact fun _ => rfl))
              iterate 3 (go_big_quiet_step (exact fun _ => rfl))
              refine wpQuiet_nil ?_
              refine wpq_slice_to rfl 23 (.tmp 58) (.tmp 59) rfl 5 1 Tryd.underlying23 (by kernel_rfl) _ L dk rfl .i64 j rfl hjc ?_
              simp only [Act.put, List.setIfInBounds_toArray, List.set_cons_succ, List.set_cons_zero]
              refine wpq_slice_to rfl 23 (.tmp 63) (.tmp 64) rfl 5 1 Tryd.underlying23 (by kernel_rfl) _ L dk rfl .i64 j rfl hjc ?_
              simp only [Act.put, List.setIfInBounds_toArray, List.set_cons_succ, List.set_cons_zero]
              refine wpQuiet_nil ?_
              go_wp2_with fail
              refine (rdigest_any v2 (upA.out _ hbwv.out) hnd.out.1 hzad.out ((upD.out _ hb2v.out).to hjld.out) (by have := hjld.out; have := hL.out; omega)).mono ?_
              rintro e v3 ⟨P3, p3, q3, D3, d3, f3, rfl, hp3, hs3, hc3⟩
              have hc23 : Hid (Ab v2 v3) := hc3
              have hb3v : Hid (Below w1.heap.size w1 v3) := hb2v.out.trans (hc3.mono hb2v.out.size)
              have hbwv3 : Hid (Below w.heap.size w v3) := hbw1.out.trans (hb3v.out.mono hbw1.out.size)
              have hs3d := Lib.hid hs3
              clear hp3 hs3 hc3
              go_wp2_with fail
              refine And.intro (.inr hc23.out) ?_
              simp only
              refine wpQuiet_nil (wpQuiet_nil ?_)
              go_wp2_with fail
              refine (rdigest_any v3 (upB.out _ hbwv3.out) hnd.out.2.1 hzbd.out ((upD.out _ hb3v.out).to hjld.out) (by have := hjld.out; have := hL.out; omega)).mono ?_
              rintro e v4 ⟨P4, p4, q4, D4, d4, f4, rfl, hp4, hs4, hc4⟩
              have hc34 : Hid (Ab v3 v4) := hc4
              have hb4v : Hid (Below w1.heap.size w1 v4) := hb3v.out.trans (hc4.mono hb3v.out.size)
              have hs4d := Lib.hid hs4
              clear hp4 hs4 hc4
              go_wp2_with fail
              refine And.intro (.inr hc34.out) ?_
              simp only
              refine wpQuiet_nil (wpQuiet_nil ?_)
              go_wp2_with fail
              refine (rmatch_any v4 (hs3d.out.ab hc34.out) hs4d.out).mono ?_
              rintro e v5 ⟨rfl, hc5⟩
              have hc45 : Hid (Ab v4 v5) := hc5
              have hb5v : Hid (Below w1.heap.size w1 v5) := hb4v.out.trans (hc5.mono hb4v.out.size)
              have hbwv5 : Hid (Below w.heap.size w v5) := hbw1.out.trans (hb5v.out.mono hbw1.out.size)
              clear hc5
              have hm4 : (decide (((Sy.part (d.take j) a).length : Int) = ((Sy.part (d.take j) b).length : Int)) && Sha.sha (Sy.body (Sy.part (d.take j) a)) == Sha.sha (Sy.body (Sy.part (d.take j) b))) = Sy.same (Sy.dig a (d.take j)) (Sy.dig b (d.take j)) := rfl
              rw [hm4]
              clear hm4
              by_cases hsm : Sy.same (Sy.dig a (d.take j)) (Sy.dig b (d.take j)) = true
              · rw [hsm]
                clear hsm
                go_wp2_with fail
                refine And.intro (.inr hc45.out) ?_
                simp only
                iterate 1 (go_big_quiet_step (exact fun _ => rfl))
                refine wpQuiet_nil (wpQuiet_nil ?_)
                go_wp2_with fail
                go_returns
                exact ⟨true, rfl, (fun h => by cases h), hbwv5.out⟩
              · have hgj2 := Lib.hid (Sy.lt_ext (P := fun m => Sy.Good a b (d.take m)) hgjd.out (fun h => absurd h hsm))
                rw [(Bool.not_eq_true _).mp hsm]
                clear hsm
                go_wp2_with fail
                refine And.intro (.inr hc45.out) ?_
                simp only
                iterate 1 (go_big_quiet_step (exact fun _ => rfl))
                refine wpQuiet_nil (wpQuiet_nil ?_)
                have hbwz : Hid (Below w.heap.size w v5) := hbw1.out.trans (hb5v.out.mono hbw1.out.size)
                by_cases h0 : n5 = 0
                · have h0I : (n5 : Int) = 0 := by omega
                  have h0b : ((n5 : Int) == 0) = true := by rw [h0I]; rfl
                  have hl0 : Hid ((Sy.part (d.take j) a).length = 0) := by have := hl5.out; show _ = _; omega
                  go_wp2_with fail
                  go_roundw
                  case rel =>
                    have hkl := hltd.out
                    exact ⟨k + 1, by have := hltd.out; omega, by go_num, hstep.out fun q hq => Sy.good_from hgj2.out (.inl hl0.out) hq, hbwz.out⟩
                  case measure => have hkl := hltd.out; simp [intOf]; omega
                · have h0I : ¬ (n5 : Int) = 0 := by omega
                  have h0b : ((n5 : Int) == 0) = false := by simpa using h0I
                  by_cases h1 : n6 = 0
                  · have h1I : (n6 : Int) = 0 := by omega
                    have h1b : ((n6 : Int) == 0) = true := by rw [h1I]; rfl
                    have hl0 : Hid ((Sy.part (d.take j) b).length = 0) := by have := hl6.out; show _ = _; omega
                    go_wp2_with fail
                    go_roundw
                    case rel =>
                      have hkl := hltd.out
                      exact ⟨k + 1, by have := hltd.out; omega, by go_num, hstep.out fun q hq => Sy.good_from hgj2.out (.inr hl0.out) hq, hbwz.out⟩
                    case measure => have hkl := hltd.out; simp [intOf]; omega
                  · have h1I : ¬ (n6 : Int) = 0 := by omega
                    have h1b : ((n6 : Int) == 0) = false := by simpa using h1I
                    go_wp2_with fail
                    go_roundw
                    case rel =>
                      have hz2 : ((Sy.two a b d j : Nat) : Int) = (n5 : Int) + (n6 : Int) := by rw [htwo.out]; omega
                      exact ⟨j + 1, (n5 : Int) + (n6 : Int), by omega, by go_num, rfl, .inr ⟨j, rfl, hz2.symm⟩, hgj2.out, hb5v.out⟩
                    case measure => have hkl := hltd.out; simp [intOf]; omega
        · have hjL : Hid (j = L + 1) := by show _ = _; omega
          have hbw : Hid (Below w.heap.size w wr) := hbw1.out.trans (hbj.out.mono hbw1.out.size)
          go_wp2_with fail
          go_roundw
          case rel =>
            have hkl := hltd.out
            exact ⟨k + 1, by have := hltd.out; omega, by go_num, hstep.out fun q hq => Sy.good_all (fun m hm => hgjd.out m (by have := hjL.out; have := hLd.out; omega)) hq, hbw.out⟩
          case measure => have hkl := hltd.out; simp [intOf]; omega
    · have hkn := Lib.hid (show k = n3 by omega)
      go_wp2_with fail
      go_returns
      have e1 : s.take k = s := by rw [hkn.out, hsl.out]; exact List.take_length
      have h := hgd.out
      rw [e1] at h
      exact ⟨false, rfl, fun _ => h, hbr.out⟩
set_option maxRecDepth 100000 in
set_option maxHeartbeats 2000000 in
theorem clashes_any (a b : List Sy.Cm) (w : World) {A1 A2 : Option Addr} {n1 c1 n2 c2 : Nat} (ha : RdE lCm w (fun i => i < w.heap.size) A1 n1 c1 a) (hb : RdE lCm w (fun i => i < w.heap.size) A2 n2 c2 b)
    (hn1 : n1 ≤ 16) (hn2 : n2 ≤ 16) (hza : ∀ x ∈ a, Sy.csz x ≤ 1000) (hzb : ∀ x ∈ b, Sy.csz x ≤ 1000) :
    Calls Tryd.prog 27 #[.slice A1 n1 c1, .slice A2 n2 c2] w fun e w' => ∃ r : Bool, e = .returned (.bool r) ∧ (r = false → ∀ q, Sy.Good a b q) ∧ Below w.heap.size w w' := by
  go_enter Tryd.func27, Tryd.ntmps27
  go_wp2_with fail
  refine (clash_any a b a w ha hb ha hn1 hn2 hn1 hza hzb hza).mono ?_
  rintro e w1 ⟨r, rfl, hr, hb1⟩
  cases r with
  | true =>
    go_wp2_with fail
    go_returns
    exact ⟨true, rfl, (fun h => by cases h), hb1⟩
  | false =>
    have hg := Lib.hid (Sy.good_any (hr rfl))
    clear hr
    have hf := Fr.of_below (F := fun _ => False) hb1
    go_wp2_with fail
    refine (clash_any a b b w1 ((ha.fr hf (fun _ _ h => h)).mono (fun i hi _ => hi)) ((hb.fr hf (fun _ _ h => h)).mono (fun i hi _ => hi)) ((hb.fr hf (fun _ _ h => h)).mono (fun i hi _ => hi)) hn1 hn2 hn2 hza hzb hzb).mono ?_
    rintro e w2 ⟨r, rfl, -, hb2⟩
    go_wp2_with fail
    go_returns
    exact ⟨r, rfl, fun _ => hg.out, hb1.trans (hb2.mono hb1.size)⟩
end Go.Proofs.YtajohibeoicepaaDoor
namespace Go.Proofs.YtajohibeoicepaaDoor.synctreeFinds
open Go.ChangeShapes Go.WideShapes Go.ChangeAt Go.RowKit Go.Pl
set_option maxRecDepth 100000 in
set_option maxHeartbeats 8000000 in
theorem walk (w : World) (hK : Kst w) {A B : Option Addr} {n c m d : Nat} {l r : List Sy.Cm} (hs : RdE lCm w (fun _ => True) A n c l) (hz : ∀ x ∈ l, Sy.csz x ≤ 30000000) (hr : RdE lCm w (fun _ => True) B m d r) (hzr : ∀ x ∈ r, Sy.csz x ≤ 30000000) :
    Calls Tryd.prog 8 #[.slice A n c, .slice B m d] w fun e w' => e = .returned (.bool true) ∧ Below w.heap.size w w' := by
  have upS : Hid (∀ w', Below w.heap.size w w' → RdE lCm w' (fun i => i < w'.heap.size) A n c l) := fun w' h => (hs.fr (Fr.of_below (F := fun _ => False) h) (fun _ _ h => h)).mono (fun i hi _ => hi)
  have upR : Hid (∀ w', Below w.heap.size w w' → RdE lCm w' (fun i => i < w'.heap.size) B m d r) := fun w' h => (hr.fr (Fr.of_below (F := fun _ => False) h) (fun _ _ h => h)).mono (fun i hi _ => hi)
  have upK : Hid (∀ w', Below w.heap.size w w' → Kst w') := fun w' h => hK.below h hK.pos
  have hzd := Lib.hid hz
  have hzrd := Lib.hid hzr
  have hnl := Lib.hid hs.len
  have hml := Lib.hid hr.len
  clear hs hr hK hz hzr
  go_enter Tryd.func8, Tryd.ntmps8
  go_wp2_with fail
  refine (awake_any w (upK.out w (Below.refl _ _))).mono ?_
  rintro e w1 ⟨rfl, hb1⟩
  have hb1d := Lib.hid hb1
  clear hb1
  go_wp2_with fail
  by_cases hS : Sy.State l
  · refine (state_any l w1 ((upS.out _ hb1d.out).mono (fun _ _ _ => trivial)) hzd.out true ⟨fun _ => hS, fun _ => rfl⟩).mono ?_
    rintro e w2 ⟨rfl, hb2⟩
    have hb2d : Hid (Below w.heap.size w w2) := hb1d.out.trans (hb2.mono hb1d.out.size)
    have hn : Hid (n ≤ 16) := by have := hS.1; have := hnl.out; show _ ≤ _; omega
    have hSd := Lib.hid hS
    clear hb2 hS
    go_wp2_with fail
    by_cases hT : Sy.State r
    · refine (state_any r w2 ((upR.out _ hb2d.out).mono (fun _ _ _ => trivial)) hzrd.out true ⟨fun _ => hT, fun _ => rfl⟩).mono ?_
      rintro e w3 ⟨rfl, hb3⟩
      have hb3d : Hid (Below w.heap.size w w3) := hb2d.out.trans (hb3.mono hb2d.out.size)
      have hm : Hid (m ≤ 16) := by have := hT.1; have := hml.out; show _ ≤ _; omega
      have hTd := Lib.hid hT
      clear hb3 hT
      go_wp2_with fail
      refine (clashes_any l r w3 (upS.out _ hb3d.out) (upR.out _ hb3d.out) hn.out hm.out hSd.out.csz hTd.out.csz).mono ?_
      rintro e w4 ⟨rc, rfl, hgood, hb4⟩
      have hb4d : Hid (Below w.heap.size w w4) := hb3d.out.trans (hb4.mono hb3d.out.size)
      clear hb4
      cases rc with
      | true =>
        clear hgood
        go_wp2_with fail
        go_returns
        exact ⟨rfl, hb4d.out⟩
      | false =>
        have hgd := Lib.hid (hgood rfl)
        clear hgood
        go_wp2_with fail
        refine (diffs_any w4 (upK.out _ hb4d.out) (upS.out _ hb4d.out) (upR.out _ hb4d.out) hn.out hm.out hSd.out.csz hTd.out.csz).mono ?_
        rintro e w5 ⟨A5, n5, c5, rfl, hr5, hb5⟩
        have hb5d : Hid (Below w.heap.size w w5) := hb4d.out.trans (hb5.mono hb4d.out.size)
        have hle : n5 ≤ 32 := by
          have := hr5.len
          have := Sy.diff_le 2002 l r []
          have := Sy.part_len [] l
          have := Sy.part_len [] r
          have := hnl.out
          have := hml.out
          have := hn.out
          have := hm.out
          omega
        have hone : Hid (∀ x, ((x ∈ l ∧ x ∉ r) ∨ (x ∉ l ∧ x ∈ r)) → Sy.below (Sy.diff 2002 l r []) (Sy.digs (Sy.enc x)) = 1) := fun x hx => Sy.diff_one hSd.out hTd.out hgd.out hx 2002 [] rfl List.nil_prefix
        have hnone : Hid (n5 = 0 ↔ l.map Sy.enc = r.map Sy.enc) := by show _ ↔ _; rw [hr5.len]; exact Sy.diff_none hSd.out hTd.out hgd.out
        obtain ⟨ps, hps⟩ : ∃ ps, Sy.diff 2002 l r [] = ps := ⟨_, rfl⟩
        rw [hps] at hr5 hone
        have hpl := Lib.hid hr5.len
        have hr5d := Lib.hid hr5
        clear hr5 hb5 hps
        go_wp2_with fail
        refine (slist_any l r w5 ((upS.out _ hb5d.out).mono (fun _ _ _ => trivial)) ((upR.out _ hb5d.out).mono (fun _ _ _ => trivial)) (by have := hn.out; omega) hzd.out hzrd.out).mono ?_
        rintro e w6 ⟨rfl, hb6⟩
        have hb56 : Hid (Below w5.heap.size w5 w6) := hb6
        have hb6d : Hid (Below w.heap.size w w6) := hb5d.out.trans (hb6.mono hb5d.out.size)
        have hr6 : Hid (RdE lBytes w6 (fun _ => True) A5 n5 c5 ps) := (hr5d.out.fr (Fr.of_below (F := fun _ => False) hb56.out) (fun _ _ h => h)).mono (fun _ _ _ => trivial)
        clear hb6 hr5d
        obtain ⟨sm, hsm⟩ : ∃ sm, (l.map Sy.enc == r.map Sy.enc) = sm := ⟨_, rfl⟩
        rw [hsm]
        have hsmd : Hid (n5 = 0 ↔ sm = true) := by show _ ↔ _; rw [hnone.out, ← hsm]; simp
        clear hsm
        obtain ⟨us1, hu1, hE1⟩ := upS.out _ hb6d.out
        obtain ⟨us2, hu2, hE2⟩ := upR.out _ hb6d.out
        have hE1d := Lib.hid hE1
        have hE2d := Lib.hid hE2
        have hu1d := Lib.hid hu1
        have hu2d := Lib.hid hu2
        obtain ⟨N, hN⟩ : ∃ N, n + m = N := ⟨_, rfl⟩
        have hNd := Lib.hid hN
        have hN32 : N ≤ 32 := by have := hn.out; have := hm.out; omega
        clear hE1 hE2 hu1 hu2 hN
        have o1 : (w6.alloc (.cells #[] 39)).ownsRow w6.heap.size 39 6 (.slice (some ⟨w6.heap.size, 0, none⟩) 0 0) 0 [] := ⟨by simp, .inr ⟨w6.heap.size, 0, #[], rfl, Nat.le_refl _, heap_alloc_new w6 _, Nat.le_refl _, by simp [maxLen], by simp, by simp⟩⟩
        have o1d := Lib.hid o1
        have hc1 : Hid (Below w6.heap.size w6 (w6.alloc (.cells #[] 39))) := (Below.refl _ _).alloc (Nat.le_refl _) _
        have hq1 := Row.fr hu1d.out (Fr.of_below (F := fun _ => False) hc1.out) (fun _ _ h => h)
        have on1 := hE1d.out.ones
        have hs1 : w6.heap.size ≤ (w6.alloc (.cells #[] 39)).heap.size := hc1.out.size
        have hj1 : (0 + n) * 80 ≤ 140737488355328 := by have := hn.out; omega
        have hd0 : decide ((n5 : Int) = 0) = sm := by rw [Bool.eq_iff_iff, decide_eq_true_iff, ← hsmd.out]; omega
        have hb0 : ((n5 : Int) == 0) = sm := by rw [Bool.eq_iff_iff, beq_iff_eq, ← hsmd.out]; omega
        go_wp2_with (at_builtin; refine wpl_app rfl (.tmp 35) (.tmp 36) 22 rfl w6.heap.size 39 _ 6 80 Tryd.underlying22 infoCm rfl (by decide) (by decide) _ rfl 0 _ o1 _ _ n c rfl _ hq1 on1 hj1 hs1 n (Nat.zero_add _) ?h2)
        case h2 =>
          intro A7 c7 w7 o7 g7 b7
          have hb7 : Hid (Below w6.heap.size w6 w7) := app_below hc1.out g7 (fun k e => (own_lt o1d.out k e).1) hs1
          have o7d := Lib.hid o7
          have hq2 := Row.fr hu2d.out (Fr.of_below (F := fun _ => False) hb7.out) (fun _ _ h => h)
          have on2 := hE2d.out.ones
          have hs2 : w6.heap.size ≤ w7.heap.size := hb7.out.size
          have hj2 : (n + m) * 80 ≤ 140737488355328 := by have := hn.out; have := hm.out; omega
          have hN := hNd.out
          clear o1 hq1 on1 hs1 hj1 g7 b7
          go_wp2_with (at_builtin; refine wpl_app rfl (.tmp 37) (.tmp 38) 22 rfl w6.heap.size 39 _ 6 80 Tryd.underlying22 infoCm rfl (by decide) (by decide) _ rfl n _ o7 _ _ m d rfl _ hq2 on2 hj2 hs2 N hN ?h3)
          case h3 =>
            intro A9 c9 w9 o9 g9 b9
            have hb69 : Hid (Below w6.heap.size w6 w9) := app_below hb7.out g9 (fun k e => (own_lt o7d.out k e).1) hs2
            have hb9d : Hid (Below w.heap.size w w9) := hb6d.out.trans (hb69.out.mono hb6d.out.size)
            have hboth : Hid (RdE lCm w9 (fun _ => True) A9 N c9 (l ++ r)) := by
              have hf := Fr.of_below (F := fun _ => False) hb69.out
              exact ⟨us1 ++ us2, (own_row o9).mono (fun _ _ _ => trivial), ((hE1d.out.fr hf (fun _ _ h => h)).append (hE2d.out.fr hf (fun _ _ h => h))).mono (fun _ _ _ => trivial)⟩
            have hlist : Hid (RdE lBytes w9 (fun _ => True) A5 n5 c5 ps) := hr6.out.fr (Fr.of_below (F := fun _ => False) hb69.out) (fun _ _ h => h)
            have hbl := Lib.hid hboth.out.len
            clear o7 hq2 on2 hs2 hj2 hN o9 g9 b9
            go_wp2_with fail
            go_loopw [7] (fun t wr => ∃ k : Nat, k ≤ N ∧ t = .int .i64 (k : Int) ∧ Below w9.heap.size w9 wr) (fun t _ => N - (intOf t).toNat)
            case atStart => exact ⟨0, Nat.zero_le _, rfl, Below.refl _ _⟩
            case round =>
              obtain ⟨k, hk, rfl, hb⟩ := hrel
              have hbr := Lib.hid hb
              have hbwr : Hid (Below w.heap.size w wr) := hb9d.out.trans (hb.mono hb9d.out.size)
              clear hb
              by_cases hlt : k < N
              · have hka : k < (l ++ r).length := by have := hbl.out; omega
                obtain ⟨x, hx⟩ : ∃ x, (l ++ r)[k]? = some x := ⟨_, List.getElem?_eq_getElem hka⟩
                have hxm : Hid (x ∈ l ∨ x ∈ r) := List.mem_append.1 (List.mem_of_getElem? hx)
                have hxok : Hid (Sy.OkCm x) := hxm.out.elim (hSd.out.ok x) (hTd.out.ok x)
                have hzx : Hid (Sy.csz x ≤ 30000000) := hxm.out.elim (hzd.out x) (hzrd.out x)
                obtain ⟨b0, o0, E1, r1, t1, G1, m1, y1, rfl, hbl0, hxr1, hxr2, hcg⟩ := cm_at (hboth.out.fr (Fr.of_below (F := fun _ => False) hbr.out) (fun _ _ h => h)) hx
                have e0 : wr.cell? ⟨b0, o0 + k * 6, none⟩ = some (.int .i64 x.client) := hcg 0 _ rfl
                have e1 : wr.cell? ⟨b0, o0 + k * 6 + 1, none⟩ = some (.int .i64 x.seq) := hcg 1 _ rfl
                have e2 : wr.cell? ⟨b0, o0 + k * 6 + 2, none⟩ = some (.int .i64 x.kind) := hcg 2 _ rfl
                have e3 : wr.cell? ⟨b0, o0 + k * 6 + 3, none⟩ = some (.slice E1 r1 t1) := hcg 3 _ rfl
                have e4 : wr.cell? ⟨b0, o0 + k * 6 + 4, none⟩ = some (.int .i64 x.replica) := hcg 4 _ rfl
                have e5 : wr.cell? ⟨b0, o0 + k * 6 + 5, none⟩ = some (.slice G1 m1 y1) := hcg 5 _ rfl
                have hxr := Lib.hid (And.intro hxr1 hxr2)
                have hcgd := Lib.hid (And.intro hcg hbl0)
                clear hx hka hxr1 hxr2 hcg hbl0
                go_wp2_with fail
                clear e0 e1 e2 e3 e4 e5
                have hh := has_any l x wr ((upS.out _ hbwr.out).mono (fun _ _ _ => trivial)) (by have := hn.out; omega) hzd.out hxr.out.1 hxr.out.2 hzx.out
                by_cases hxl : x ∈ l
                · rw [(Sy.has_iff hSd.out hxok.out).2 hxl] at hh
                  refine hh.mono ?_
                  rintro e v1 ⟨rfl, hc1⟩
                  have hr1 : Hid (Ab wr v1) := hc1
                  have h91 : Hid (Below w9.heap.size w9 v1) := hbr.out.trans (hc1.mono hbr.out.size)
                  have hw1 : Hid (Below w.heap.size w v1) := hbwr.out.trans (hc1.mono hbwr.out.size)
                  have hcg := range_ab hcgd.out.1 hcgd.out.2 hr1.out
                  have e0 : v1.cell? ⟨b0, o0 + k * 6, none⟩ = some (.int .i64 x.client) := hcg 0 _ rfl
                  have e1 : v1.cell? ⟨b0, o0 + k * 6 + 1, none⟩ = some (.int .i64 x.seq) := hcg 1 _ rfl
                  have e2 : v1.cell? ⟨b0, o0 + k * 6 + 2, none⟩ = some (.int .i64 x.kind) := hcg 2 _ rfl
                  have e3 : v1.cell? ⟨b0, o0 + k * 6 + 3, none⟩ = some (.slice E1 r1 t1) := hcg 3 _ rfl
                  have e4 : v1.cell? ⟨b0, o0 + k * 6 + 4, none⟩ = some (.int .i64 x.replica) := hcg 4 _ rfl
                  have e5 : v1.cell? ⟨b0, o0 + k * 6 + 5, none⟩ = some (.slice G1 m1 y1) := hcg 5 _ rfl
                  have hxld := Lib.hid hxl
                  clear hc1 hcg hh hxl
                  go_wp2_with fail
                  clear e0 e1 e2 e3 e4 e5
                  have hfr := Fr.of_below (F := fun _ => False) hr1.out
                  have hh := has_any r x v1 ((upR.out _ hw1.out).mono (fun _ _ _ => trivial)) (by have := hm.out; omega) hzrd.out (hxr.out.1.fr hfr (fun _ _ h => h)) (hxr.out.2.fr hfr (fun _ _ h => h)) hzx.out
                  by_cases hxr' : x ∈ r
                  · rw [(Sy.has_iff hTd.out hxok.out).2 hxr'] at hh
                    refine hh.mono ?_
                    rintro e v2 ⟨rfl, hc2⟩
                    have h92 : Hid (Below w9.heap.size w9 v2) := h91.out.trans (hc2.mono h91.out.size)
                    clear hc2 hh hxr' hfr
                    go_wp2_with fail
                    go_roundw
                    case rel => exact ⟨k + 1, by omega, by go_num, h92.out⟩
                    case measure => simp [intOf]; omega
                  · have hx1 := Lib.hid (hone.out x (.inl ⟨hxld.out, hxr'⟩))
                    rw [Bool.eq_false_iff.2 (fun h => hxr' ((Sy.has_iff hTd.out hxok.out).1 h))] at hh
                    refine hh.mono ?_
                    rintro e v2 ⟨rfl, hc2⟩
                    have h92 : Hid (Below w9.heap.size w9 v2) := h91.out.trans (hc2.mono h91.out.size)
                    have hrz : Hid (Below wr.heap.size wr v2) := Ab.trans _ _ _ hr1.out hc2
                    clear hc2 hh hxr' hfr
                    go_wp2_with fail
                    go_loopw [9, 8] (fun t u wz => ∃ (j C : Nat), j ≤ n5 ∧ t = .int .i64 (j : Int) ∧ u = .int .i64 (C : Int) ∧ C ≤ j ∧ Sy.below (ps.take j) (Sy.digs (Sy.enc x)) = C ∧ Below v2.heap.size v2 wz) (fun t _ _ => n5 - (intOf t).toNat)
                    case atStart => exact ⟨0, 0, Nat.zero_le _, rfl, rfl, Nat.le_refl _, rfl, Below.refl _ _⟩
                    case round =>
                      obtain ⟨j, C, hj, rfl, rfl, hC, hbel, hb⟩ := hrel
                      have hbeld := Lib.hid hbel
                      have hzz : Hid (Ab v2 wr) := hb
                      have h9z : Hid (Below w9.heap.size w9 wr) := h92.out.trans (hb.mono h92.out.size)
                      clear hbel hb
                      by_cases hjl : j < n5
                      · have hjp : j < ps.length := by have := hpl.out; omega
                        obtain ⟨q, hq⟩ : ∃ q, ps[j]? = some q := ⟨_, List.getElem?_eq_getElem hjp⟩
                        obtain ⟨b2, o2, P2, p2, q2, rfl, hbl2, hw2, hg2⟩ := bs_at (hlist.out.fr (Fr.of_below (F := fun _ => False) h9z.out) (fun _ _ h => h)) hq
                        have hqs := Lib.hid (Sy.below_take (d := Sy.digs (Sy.enc x)) hq)
                        have hw2d := Lib.hid hw2
                        have hg2d := Lib.hid (And.intro hg2 hbl2)
                        clear hq hjp hbl2 hw2 hg2
                        go_wp2_with fail
                        refine wp_region_late Ab Ab.refl Ab.trans [] (.one [0, 1, 5, 6] [2, 3, 7, 8] 4 (.one [] [] 9 (.last [] []))) (by kernel_rfl) (by kernel_rfl) (fun _ _ _ _ _ h => h) ?_
                        simp only [wpSchV, ordPick, Option.toList_some, List.cons_append, List.nil_append, List.getElem?_cons_succ, List.getElem?_cons_zero]
                        have hbd2 : Hid (Ab wr wr.drew) := ab_drew wr
                        obtain ⟨z1, hz1⟩ : ∃ z1, wr.drew = z1 := ⟨_, rfl⟩
                        rw [hz1] at hbd2 ⊢
                        clear hz1
                        have hrz1 : Hid (Ab _ z1) := Ab.trans _ _ _ hrz.out (Ab.trans _ _ _ hzz.out hbd2.out)
                        have g1 : ∀ w', Ab z1 w' → w'.rangeAt b0 (o0 + k * 6) [.int .i64 x.client, .int .i64 x.seq, .int .i64 x.kind, .slice E1 r1 t1, .int .i64 x.replica, .slice G1 m1 y1] := fun w' h => range_ab hcgd.out.1 hcgd.out.2 (Ab.trans _ _ _ hrz1.out h)
                        have g2 : ∀ w', Ab z1 w' → w'.cell? ⟨b2, o2 + j, none⟩ = some (.slice P2 p2 q2) := fun w' h => (Below.cell (Ab.trans _ _ _ hbd2.out h) (p := ⟨b2, o2 + j, none⟩) hg2d.out.2).trans hg2d.out.1
                        iterate 4 (go_big_quiet_step (exact fun _ => rfl))
                        refine wpQuiet_nil ?_
                        iterate 1 (go_big_quiet_step (exact fun _ => rfl))
                        refine wpq_load_midw rfl 39 (.tmp 68) rfl b0 (o0 + k * 6) rfl _ g1 _ Tryd.underlying39 rfl (by kernel_rfl) ?_
                        simp only [Act.put, List.setIfInBounds_toArray, List.set_cons_succ, List.set_cons_zero]
                        iterate 1 (go_big_quiet_step (exact fun _ => rfl))
                        refine wpq_load_one rfl 23 (.tmp 73) rfl ⟨b2, o2 + j, none⟩ rfl _ g2 _ Tryd.underlying23 rfl ?_
                        simp only [Act.put, List.setIfInBounds_toArray, List.set_cons_succ, List.set_cons_zero]
                        refine wpQuiet_nil ?_
                        clear g1 g2
                        have hfr := Fr.of_below (F := fun _ => False) hrz1.out
                        go_wp2_with fail
                        refine (digits_r x z1 (hxr.out.1.fr hfr (fun _ _ h => h)) (hxr.out.2.fr hfr (fun _ _ h => h)) hzx.out).mono ?_
                        rintro e z2 ⟨D, L, dk, rfl, hrd, hc3⟩
                        have hz12 : Hid (Ab z1 z2) := hc3
                        have hrdd := Lib.hid hrd
                        clear hrd hc3 hfr
                        go_wp2_with fail
                        refine And.intro (.inr hz12.out) ?_
                        simp only
                        refine wpQuiet_nil (wpQuiet_nil ?_)
                        go_wp2_with fail
                        refine (begins_any z2 (hrdd.out.mono (fun _ _ _ => trivial)) (((hw2d.out.ab hbd2.out).ab hz12.out).mono (fun _ _ _ => trivial))).mono ?_
                        rintro e z3 ⟨rfl, hc4⟩
                        have hz23 : Hid (Ab z2 z3) := hc4
                        have hz3 : Hid (Below v2.heap.size v2 z3) := Ab.trans _ _ _ hzz.out (Ab.trans _ _ _ hbd2.out (Ab.trans _ _ _ hz12.out hc4))
                        clear hc4 hrdd
                        by_cases hpre : q.isPrefixOf (Sy.digs (Sy.enc x)) = true
                        · rw [hpre]
                          have hnx : Hid (Sy.below (ps.take (j + 1)) (Sy.digs (Sy.enc x)) = C + 1) := by show _ = _; rw [hqs.out, hbeld.out, if_pos hpre]
                          clear hpre
                          go_wp2_with fail
                          refine And.intro (.inr hz23.out) ?_
                          simp only
                          refine wpQuiet_nil (wpQuiet_nil ?_)
                          go_wp2_with fail
                          go_roundw
                          case rel => exact ⟨j + 1, C + 1, by omega, by go_num, by go_num, by omega, hnx.out, hz3.out⟩
                          case measure => simp [intOf]; omega
                        · have hpf := (Bool.not_eq_true _).mp hpre
                          rw [hpf]
                          have hnx : Hid (Sy.below (ps.take (j + 1)) (Sy.digs (Sy.enc x)) = C) := by show _ = _; rw [hqs.out, hbeld.out, if_neg hpre]; rfl
                          clear hpre hpf
                          go_wp2_with fail
                          refine And.intro (.inr hz23.out) ?_
                          simp only
                          refine wpQuiet_nil (wpQuiet_nil ?_)
                          go_wp2_with fail
                          go_roundw
                          case rel => exact ⟨j + 1, C, by omega, by go_num, rfl, by omega, hnx.out, hz3.out⟩
                          case measure => simp [intOf]; omega
                      · obtain rfl : j = n5 := by omega
                        have hC1 : C = 1 := by
                          have h1 := hbeld.out
                          have e : ps.take j = ps := by rw [hpl.out]; exact List.take_length
                          rw [e, hx1.out] at h1
                          exact h1.symm
                        subst hC1
                        go_wp2_with fail
                        go_roundw
                        case rel => exact ⟨k + 1, by omega, by go_num, h9z.out⟩
                        case measure => simp [intOf]; omega
                · have hx1 := Lib.hid (hone.out x (.inr ⟨hxl, hxm.out.resolve_left hxl⟩))
                  rw [Bool.eq_false_iff.2 (fun h => hxl ((Sy.has_iff hSd.out hxok.out).1 h))] at hh
                  refine hh.mono ?_
                  rintro e v2 ⟨rfl, hc2⟩
                  have h92 : Hid (Below w9.heap.size w9 v2) := hbr.out.trans (hc2.mono hbr.out.size)
                  have hrz : Hid (Below wr.heap.size wr v2) := hc2
                  clear hc2 hh hxl
                  go_wp2_with fail
                  go_loopw [9, 8] (fun t u wz => ∃ (j C : Nat), j ≤ n5 ∧ t = .int .i64 (j : Int) ∧ u = .int .i64 (C : Int) ∧ C ≤ j ∧ Sy.below (ps.take j) (Sy.digs (Sy.enc x)) = C ∧ Below v2.heap.size v2 wz) (fun t _ _ => n5 - (intOf t).toNat)
                  case atStart => exact ⟨0, 0, Nat.zero_le _, rfl, rfl, Nat.le_refl _, rfl, Below.refl _ _⟩
                  case round =>
                    obtain ⟨j, C, hj, rfl, rfl, hC, hbel, hb⟩ := hrel
                    have hbeld := Lib.hid hbel
                    have hzz : Hid (Ab v2 wr) := hb
                    have h9z : Hid (Below w9.heap.size w9 wr) := h92.out.trans (hb.mono h92.out.size)
                    clear hbel hb
                    by_cases hjl : j < n5
                    · have hjp : j < ps.length := by have := hpl.out; omega
                      obtain ⟨q, hq⟩ : ∃ q, ps[j]? = some q := ⟨_, List.getElem?_eq_getElem hjp⟩
                      obtain ⟨b2, o2, P2, p2, q2, rfl, hbl2, hw2, hg2⟩ := bs_at (hlist.out.fr (Fr.of_below (F := fun _ => False) h9z.out) (fun _ _ h => h)) hq
                      have hqs := Lib.hid (Sy.below_take (d := Sy.digs (Sy.enc x)) hq)
                      have hw2d := Lib.hid hw2
                      have hg2d := Lib.hid (And.intro hg2 hbl2)
                      clear hq hjp hbl2 hw2 hg2
                      go_wp2_with fail
                      refine wp_region_late Ab Ab.refl Ab.trans [] (.one [0, 1, 5, 6] [2, 3, 7, 8] 4 (.one [] [] 9 (.last [] []))) (by kernel_rfl) (by kernel_rfl) (fun _ _ _ _ _ h => h) ?_
                      simp only [wpSchV, ordPick, Option.toList_some, List.cons_append, List.nil_append, List.getElem?_cons_succ, List.getElem?_cons_zero]
                      have hbd2 : Hid (Ab wr wr.drew) := ab_drew wr
                      obtain ⟨z1, hz1⟩ : ∃ z1, wr.drew = z1 := ⟨_, rfl⟩
                      rw [hz1] at hbd2 ⊢
                      clear hz1
                      have hrz1 : Hid (Ab _ z1) := Ab.trans _ _ _ hrz.out (Ab.trans _ _ _ hzz.out hbd2.out)
                      have g1 : ∀ w', Ab z1 w' → w'.rangeAt b0 (o0 + k * 6) [.int .i64 x.client, .int .i64 x.seq, .int .i64 x.kind, .slice E1 r1 t1, .int .i64 x.replica, .slice G1 m1 y1] := fun w' h => range_ab hcgd.out.1 hcgd.out.2 (Ab.trans _ _ _ hrz1.out h)
                      have g2 : ∀ w', Ab z1 w' → w'.cell? ⟨b2, o2 + j, none⟩ = some (.slice P2 p2 q2) := fun w' h => (Below.cell (Ab.trans _ _ _ hbd2.out h) (p := ⟨b2, o2 + j, none⟩) hg2d.out.2).trans hg2d.out.1
                      iterate 4 (go_big_quiet_step (exact fun _ => rfl))
                      refine wpQuiet_nil ?_
                      iterate 1 (go_big_quiet_step (exact fun _ => rfl))
                      refine wpq_load_midw rfl 39 (.tmp 68) rfl b0 (o0 + k * 6) rfl _ g1 _ Tryd.underlying39 rfl (by kernel_rfl) ?_
                      simp only [Act.put, List.setIfInBounds_toArray, List.set_cons_succ, List.set_cons_zero]
                      iterate 1 (go_big_quiet_step (exact fun _ => rfl))
                      refine wpq_load_one rfl 23 (.tmp 73) rfl ⟨b2, o2 + j, none⟩ rfl _ g2 _ Tryd.underlying23 rfl ?_
                      simp only [Act.put, List.setIfInBounds_toArray, List.set_cons_succ, List.set_cons_zero]
                      refine wpQuiet_nil ?_
                      clear g1 g2
                      have hfr := Fr.of_below (F := fun _ => False) hrz1.out
                      go_wp2_with fail
                      refine (digits_r x z1 (hxr.out.1.fr hfr (fun _ _ h => h)) (hxr.out.2.fr hfr (fun _ _ h => h)) hzx.out).mono ?_
                      rintro e z2 ⟨D, L, dk, rfl, hrd, hc3⟩
                      have hz12 : Hid (Ab z1 z2) := hc3
                      have hrdd := Lib.hid hrd
                      clear hrd hc3 hfr
                      go_wp2_with fail
                      refine And.intro (.inr hz12.out) ?_
                      simp only
                      refine wpQuiet_nil (wpQuiet_nil ?_)
                      go_wp2_with fail
                      refine (begins_any z2 (hrdd.out.mono (fun _ _ _ => trivial)) (((hw2d.out.ab hbd2.out).ab hz12.out).mono (fun _ _ _ => trivial))).mono ?_
                      rintro e z3 ⟨rfl, hc4⟩
                      have hz23 : Hid (Ab z2 z3) := hc4
                      have hz3 : Hid (Below v2.heap.size v2 z3) := Ab.trans _ _ _ hzz.out (Ab.trans _ _ _ hbd2.out (Ab.trans _ _ _ hz12.out hc4))
                      clear hc4 hrdd
                      by_cases hpre : q.isPrefixOf (Sy.digs (Sy.enc x)) = true
                      · rw [hpre]
                        have hnx : Hid (Sy.below (ps.take (j + 1)) (Sy.digs (Sy.enc x)) = C + 1) := by show _ = _; rw [hqs.out, hbeld.out, if_pos hpre]
                        clear hpre
                        go_wp2_with fail
                        refine And.intro (.inr hz23.out) ?_
                        simp only
                        refine wpQuiet_nil (wpQuiet_nil ?_)
                        go_wp2_with fail
                        go_roundw
                        case rel => exact ⟨j + 1, C + 1, by omega, by go_num, by go_num, by omega, hnx.out, hz3.out⟩
                        case measure => simp [intOf]; omega
                      · have hpf := (Bool.not_eq_true _).mp hpre
                        rw [hpf]
                        have hnx : Hid (Sy.below (ps.take (j + 1)) (Sy.digs (Sy.enc x)) = C) := by show _ = _; rw [hqs.out, hbeld.out, if_neg hpre]; rfl
                        clear hpre hpf
                        go_wp2_with fail
                        refine And.intro (.inr hz23.out) ?_
                        simp only
                        refine wpQuiet_nil (wpQuiet_nil ?_)
                        go_wp2_with fail
                        go_roundw
                        case rel => exact ⟨j + 1, C, by omega, by go_num, rfl, by omega, hnx.out, hz3.out⟩
                        case measure => simp [intOf]; omega
                    · obtain rfl : j = n5 := by omega
                      have hC1 : C = 1 := by
                        have h1 := hbeld.out
                        have e : ps.take j = ps := by rw [hpl.out]; exact List.take_length
                        rw [e, hx1.out] at h1
                        exact h1.symm
                      subst hC1
                      go_wp2_with fail
                      go_roundw
                      case rel => exact ⟨k + 1, by omega, by go_num, h9z.out⟩
                      case measure => simp [intOf]; omega
              · have hkn := Lib.hid (show k = N by omega)
                go_wp2_with fail
                go_returns
                exact ⟨rfl, hbwr.out⟩
    · refine (state_any r w2 ((upR.out _ hb2d.out).mono (fun _ _ _ => trivial)) hzrd.out false ⟨fun h => (by cases h), fun h => (hT h).elim⟩).mono ?_
      rintro e w3 ⟨rfl, hb3⟩
      have hb3d : Hid (Below w.heap.size w w3) := hb2d.out.trans (hb3.mono hb2d.out.size)
      clear hb3
      go_wp2_with fail
      go_returns
      exact ⟨rfl, hb3d.out⟩
  · refine (state_any l w1 ((upS.out _ hb1d.out).mono (fun _ _ _ => trivial)) hzd.out false ⟨fun h => (by cases h), fun h => (hS h).elim⟩).mono ?_
    rintro e w2 ⟨rfl, hb2⟩
    have hb2d : Hid (Below w.heap.size w w2) := hb1d.out.trans (hb2.mono hb1d.out.size)
    clear hb2
    go_wp2_with fail
    go_returns
    exact ⟨rfl, hb2d.out⟩
theorem table {W : World} (h : laidMetH Tryd.prog Rows.synctreeFindsUptoRow.laid W) : Lib.TabIs Tryd.prog W "plexus/sha256.constants" .u32 (Sha.K.map fun (n : Nat) => (n : Int)) :=
  Lib.tabIs_of_head (rest := []) gTab gTabType Tryd.underlying90 Tryd.underlying75 cellsWord cellsTab h
theorem contract (H : Type) (enc : TypeId × Value → H) (W : World) (base : Nat) (args : Array Value) (ds gs : List (DataW H)) (before : List MemPlace)
    (hval : ∀ (j : Nat) t v, Tryd.f8.params[j]? = some t → args[j]? = some v → Value.okWide Tryd.prog W .any base t v)
    (hW : DataW.Whole enc Tryd.prog Tryd.f8.params.toList Rows.synctreeFindsSpec.vars false W args.toList ds gs before) (hbk : Rows.uptoSmall H (ds ++ gs) = true) (hL : laidMetH Tryd.prog Rows.synctreeFindsUptoRow.laid W) :
    Calls Tryd.prog 8 args W fun e W' => ∃ v, e = .returned v ∧ Rows.synctreeFindsSpec.post enc Tryd.prog Tryd.f8 false true false false W args v W' := by
  have hW' := hW
  obtain ⟨p, q, hA0, hV, rfl, hfz, hnd⟩ := hW
  have hA : DataW.TrodAll enc Tryd.prog W 0 (fun _ => true) true Tryd.f8.params.toList args.toList ds p := hA0
  rw [Tryd.params8] at hA hval
  obtain ⟨v0, vs0, d0, ds0, p0, q0, hargs, rfl, rfl, h0, r0⟩ := trodAll_cons hA
  obtain ⟨v1, vs1, d1, ds1, p1, q1, rfl, rfl, rfl, h1, r1⟩ := trodAll_cons r0
  obtain ⟨rfl, rfl, rfl⟩ := trodAll_nil r1
  obtain rfl : args = #[v0, v1] := by cases args; simp_all
  obtain ⟨rfl, rfl⟩ := trodVars_none hV
  have hbk1 := of_decide_eq_true hbk
  simp only [List.append_nil, Rows.uptoBulkAll] at hbk1
  obtain ⟨a0, len0, cap0, rfl⟩ := okWide_slice Tryd.underlying22 (hval 0 22 v0 rfl rfl)
  obtain ⟨a1, len1, cap1, rfl⟩ := okWide_slice Tryd.underlying22 (hval 1 22 v1 rfl rfl)
  have k0 := h0
  have lt0 : ∀ x ∈ p0, x.block < W.heap.size := by obtain ⟨m, hm⟩ := k0; exact DataW.trod_lt m _ _ _ hm
  obtain ⟨l0, hr0, hz0⟩ := cmds_in h0 (by omega)
  have k1 := h1
  have lt1 : ∀ x ∈ p1, x.block < W.heap.size := by obtain ⟨m, hm⟩ := k1; exact DataW.trod_lt m _ _ _ hm
  obtain ⟨l1, hr1, hz1⟩ := cmds_in h1 (by omega)
  clear hA0
  refine (walk W (kst_of_tab (table hL)) hr0 hz0 hr1 hz1).mono fun e W' ⟨he, bel⟩ => ?_
  subst he
  exact ⟨_, rfl, _, _, _, [], _, [], hW', trodAll_mk1 (shut_bool Tryd.underlying4 _), (trodAll_cons_mk (Below.trod laidOut (by kernel_rfl) (of_decide_eq_true (by kernel_rfl)) k0 bel lt0) (trodAll_cons_mk (Below.trod laidOut (by kernel_rfl) (of_decide_eq_true (by kernel_rfl)) k1 bel lt1) trodAll_mk0)), rfl, bel.frame _, fun h => by cases h⟩
theorem laid_met (os : Os) : laidMet Tryd.prog Rows.synctreeFindsUptoRow.laid ((laidWorld os).forCall (fun _ _ => 0) ⟨#[], #[.slice none 0 0, .slice none 0 0], []⟩).memory :=
  laidMet_of_run' 8 (by kernel_rfl) (by kernel_rfl)
theorem reads (os : Os) {H : Type} (enc : TypeId × Value → H) : ∃ places, DataW.whole enc Tryd.prog ((laidWorld os).forCall (fun _ _ => 0) ⟨#[], #[.slice none 0 0, .slice none 0 0], []⟩).memory Tryd.f8.params.toList Rows.synctreeFindsSpec.vars false #[Value.slice none 0 0, .slice none 0 0].toList 8 = some ([.nil, .nil], [], places) :=
  ⟨[], by kernel_rfl⟩
set_option maxRecDepth 100000 in
theorem lifted (os : Os) (started : os.Started) (H : Type) (enc : TypeId × Value → H) (F : Stop.Interp) :
    ReturnsInHanded {} Tryd.checked os 8 .any ((Rows.OpenSpec.upto Rows.synctreeFindsSpec).preRow enc Tryd.prog Tryd.f8 Rows.synctreeFindsUptoRow.domain false Rows.synctreeFindsUptoRow.laid) (((Rows.OpenSpec.upto Rows.synctreeFindsSpec).at F).post enc Tryd.prog Tryd.f8 false true false false) := by
  obtain ⟨places, hx⟩ := reads os enc
  refine returnsInHanded_of_row (C := Tryd.checked) (s := (Rows.OpenSpec.upto Rows.synctreeFindsSpec)) own started (by kernel_rfl) Tryd.func8
    (witness_row_at (enc := enc) (C := Tryd.checked) false (laidWorld os) #[.slice none 0 0, .slice none 0 0] rfl (by kernel_rfl) (by kernel_rfl) (by kernel_rfl)
      (OpenSpec.preRow_of_cond 8 hx (by kernel_rfl) (fun k hk => by cases hk; kernel_rfl) (by kernel_rfl) (laid_met os))) ?_
  intro W base args ds gs before hval hW _ hcond _ hL _ _
  exact contract H enc W base args ds gs before hval hW (hcond _ rfl) hL
theorem said : Rows.SynctreeFindsUptoSaid :=
  OpenClaim.holds_of_cond 8 Tryd.f8 rfl rfl rfl rfl rfl rfl rfl ⟨rfl, rfl, rfl, rfl, rfl⟩ rfl rfl rfl rfl rfl (by kernel_rfl) Tryd.func8 (by kernel_rfl)
    (of_decide_eq_true (by kernel_rfl)) (by unfold Func.isWrapper; first | (rw [if_pos (by decide +kernel)]; kernel_rfl) | (rw [if_neg (by decide +kernel)]; exact ⟨rfl, rfl⟩))
    (fun os started H enc _ F => by rw [OpenClaim.pre_eq_preRow]; exact lifted os started H enc F)
theorem plain (f : FuncId) (fn : Func) (hf : Tryd.pinned.checked.prog.funcNamed "plexus/plexuslaw45.SynctreeFinds" = some f) (hfn : Tryd.pinned.checked.prog.funcs[f]? = some fn) :
    false = Tryd.pinned.checked.prog.looks [] ∧ ∀ (j : Nat) t, fn.params[j]? = some t → Tryd.pinned.checked.prog.wantsStandIn t = false := by
  obtain rfl : f = 8 := Option.some.inj ((show Tryd.prog.funcNamed "plexus/plexuslaw45.SynctreeFinds" = some 8 by kernel_rfl).symm.trans hf) |>.symm
  obtain rfl : fn = Tryd.f8 := (Option.some.inj (Tryd.func8.symm.trans hfn)).symm
  refine ⟨by kernel_rfl, fun j t ht => ?_⟩
  rw [Tryd.params8] at ht
  have hm : t = 22 ∨ t = 22 := by simpa using Array.mem_of_getElem? ht
  rcases hm with rfl | rfl
  · exact (show Tryd.prog.wantsStandIn 22 = false by kernel_rfl)
  · exact (show Tryd.prog.wantsStandIn 22 = false by kernel_rfl)
/-- The card. -/
theorem card : Rows.SynctreeFindsUptoCardSaid :=
  Claim7.holds_tied_plain_at .later [] _ _ _ _ said (fun _ h => by cases h) (by kernel_rfl) (fun _ h => by cases h) synctreeFindsUpto_row_tie rfl ⟨rfl, rfl⟩ (by kernel_rfl) rfl plain (by kernel_rfl)
#print axioms card
end Go.Proofs.YtajohibeoicepaaDoor.synctreeFinds

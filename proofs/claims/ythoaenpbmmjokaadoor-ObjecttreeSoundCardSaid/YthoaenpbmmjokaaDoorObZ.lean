/-
  Binding and soundness: unless two different byte strings with the same digest occur.
-/
import Derived.Test.YthoaenpbmmjokaaDoorObC
import Derived.Test.YthoaenpbmmjokaaDoorObTree
namespace Ob
open Go.Op
/-- No two different byte strings with the same digest. -/
def NoClash (L : List (List UInt8)) : Prop := ∀ u ∈ L, ∀ v ∈ L, Sha.sha u = Sha.sha v → u = v
theorem NoClash.sub {L M : List (List UInt8)} (h : NoClash L) (hs : ∀ u ∈ M, u ∈ L) : NoClash M := fun u hu v hv e => h u (hs u hu) v (hs v hv) e
theorem num_inj {a b : Nat} (ha : a < 4294967296) (hb : b < 4294967296) (h : num a = num b) : a = b := by
  have h1 := val4_num a ha []
  have h2 := val4_num b hb []
  rw [h] at h1
  omega
theorem leafB_inj {k k' d d' : List UInt8} (hk : k.length < 4294967296) (hk' : k'.length < 4294967296) (h : leafB k d = leafB k' d') : k = k' ∧ d = d' := by
  unfold leafB at h
  have h1 := (List.cons.inj h).2
  obtain ⟨e1, e2⟩ := List.append_inj h1 rfl
  have hl := num_inj hk hk' e1
  exact List.append_inj e2 hl
theorem nodeB_inj {t t' : Nat} {l r l' r' : List UInt8} (ht : t < 4294967296) (ht' : t' < 4294967296) (hl : l.length = l'.length) (h : nodeB t l r = nodeB t' l' r') : t = t' ∧ l = l' ∧ r = r' := by
  unfold nodeB at h
  have h1 := (List.cons.inj h).2
  obtain ⟨e1, e2⟩ := List.append_inj h1 rfl
  obtain ⟨e3, e4⟩ := List.append_inj e2 hl
  exact ⟨num_inj ht ht' e1, e3, e4⟩
/-- The byte string whose digest is the root. -/
inductive Top : List It → List UInt8 → Prop where
  | nil : Top [] [2]
  | one (x : It) : Top [x] (leafB x.key (Sha.sha x.content))
  | two {xs : List It} (t : Nat) (h2 : 2 ≤ xs.length) (ht : top xs = t) (htl : t < 4294967296) (h0 : 0 < zeros t xs) (h1 : zeros t xs < xs.length) : Top xs (nodeB t (rootH (xs.take (zeros t xs))) (rootH (xs.drop (zeros t xs))))
theorem top_of {xs : List It} (ha : Asc xs) (hk : ∀ x ∈ xs, x.key.length ≤ 65536) : ∃ b, Top xs b ∧ rootH xs = Sha.sha b ∧ b ∈ treeL xs := by
  match xs, ha, hk with
  | [], _, _ => exact ⟨_, .nil, rootH_nil, by rw [treeL_nil]; simp⟩
  | [x], _, _ => exact ⟨_, .one x, by rw [rootH_one]; rfl, by rw [treeL_one]; simp⟩
  | x :: y :: r, ha, hk =>
    obtain ⟨a, z, t, q0, _, hl, htt, ht, h0, h1⟩ := ha.parts (by simp)
    have htb : t < 4294967296 := by
      have := split_lt (ne_of_less hl)
      have := hk a (List.mem_of_getElem? q0)
      omega
    exact ⟨_, .two t (by simp) ht htb h0 h1, rootH_two (by simp) ht h0 h1, by rw [treeL_two (by simp) ht h0 h1]; simp⟩
theorem tree_take {xs : List It} {t : Nat} (h2 : 2 ≤ xs.length) (ht : top xs = t) (h0 : 0 < zeros t xs) (h1 : zeros t xs < xs.length) : (∀ u ∈ treeL (xs.take (zeros t xs)), u ∈ treeL xs) ∧ ∀ u ∈ treeL (xs.drop (zeros t xs)), u ∈ treeL xs := by
  rw [treeL_two h2 ht h0 h1]
  exact ⟨fun u hu => by simp [hu], fun u hu => by simp [hu]⟩
/-- Two maps with the same root are equal. -/
theorem binds : ∀ (m : Nat) (xs ys : List It), xs.length ≤ m → Asc xs → Asc ys → (∀ x ∈ xs, x.key.length ≤ 65536 ∧ x.present = true ∧ x.path = []) → (∀ x ∈ ys, x.key.length ≤ 65536 ∧ x.present = true ∧ x.path = []) → NoClash (treeL xs ++ treeL ys) → rootH xs = rootH ys → xs = ys := by
  intro m
  induction m with
  | zero =>
    intro xs ys h ha hb hx hy hn hr
    have hxn : xs = [] := List.eq_nil_of_length_eq_zero (by omega)
    subst hxn
    obtain ⟨b, t1, e1, m1⟩ := top_of hb (fun x h => (hy x h).1)
    rw [rootH_nil, e1] at hr
    have := hn [2] (by rw [treeL_nil]; simp) b (by simp [m1]) hr
    cases t1 with
    | nil => rfl
    | one x => simp [leafB] at this
    | two t h2 ht htl h0 h1 => simp [nodeB] at this
  | succ m ih =>
    intro xs ys h ha hb hx hy hn hr
    obtain ⟨b1, t1, e1, m1⟩ := top_of ha (fun x h => (hx x h).1)
    obtain ⟨b2, t2, e2, m2⟩ := top_of hb (fun x h => (hy x h).1)
    rw [e1, e2] at hr
    have he := hn b1 (by simp [m1]) b2 (by simp [m2]) hr
    cases t1 with
    | nil =>
      cases t2 with
      | nil => rfl
      | one x => simp [leafB] at he
      | two t h2 ht htl h0 h1 => simp [nodeB] at he
    | one x =>
      cases t2 with
      | nil => simp [leafB] at he
      | two t h2 ht htl h0 h1 => simp [nodeB, leafB] at he
      | one y =>
        have hx1 := hx x (by simp)
        have hy1 := hy y (by simp)
        obtain ⟨f1, f2⟩ := leafB_inj (by omega) (by omega) he
        have f3 := hn x.content (by rw [treeL_one]; simp) y.content (by rw [treeL_one, treeL_one]; simp) f2
        obtain ⟨xk, xp, xc, xq⟩ := x
        obtain ⟨yk, yp, yc, yq⟩ := y
        obtain ⟨_, p1, p2⟩ := hx1
        obtain ⟨_, p3, p4⟩ := hy1
        simp only at f1 f3 p1 p2 p3 p4
        subst f1 f3 p1 p2 p3 p4
        rfl
    | two t h2 ht htl h0 h1 =>
      cases t2 with
      | nil => simp [nodeB] at he
      | one y => simp [nodeB, leafB] at he
      | two t' h2' ht' htl' h0' h1' =>
        obtain ⟨f1, f2, f3⟩ := nodeB_inj htl htl' (by rw [rootH_len (ha.take _), rootH_len (hb.take _)]) he
        subst f1
        obtain ⟨s1, s2⟩ := tree_take h2 ht h0 h1
        obtain ⟨s3, s4⟩ := tree_take h2' ht' h0' h1'
        have i1 := ih (xs.take (zeros t xs)) (ys.take (zeros t ys)) (by rw [List.length_take]; omega) (ha.take _) (hb.take _) (fun x h => hx x (List.mem_of_mem_take h)) (fun x h => hy x (List.mem_of_mem_take h))
          (hn.sub (fun u hu => by rcases List.mem_append.1 hu with h | h; exact List.mem_append.2 (.inl (s1 u h)); exact List.mem_append.2 (.inr (s3 u h)))) f2
        have i2 := ih (xs.drop (zeros t xs)) (ys.drop (zeros t ys)) (by rw [List.length_drop]; omega) (ha.drop _) (hb.drop _) (fun x h => hx x (List.mem_of_mem_drop h)) (fun x h => hy x (List.mem_of_mem_drop h))
          (hn.sub (fun u hu => by rcases List.mem_append.1 hu with h | h; exact List.mem_append.2 (.inl (s2 u h)); exact List.mem_append.2 (.inr (s4 u h)))) f3
        rw [← List.take_append_drop (zeros t xs) xs, i1, i2, List.take_append_drop]
/-- The last step of a climb. -/
theorem climb_last {key : Key} {s : List UInt8} : ∀ {l : List (List UInt8)} {ab : Nat} {d0 d : List UInt8} {tk0 tk : List (List UInt8)}, climb key (l ++ [s]) ab d0 tk0 = some (d, tk) → ∃ d' tk', climb key l ab d0 tk0 = some (d', tk') ∧ d = Sha.sha (stepB key s d') ∧ tk = tk' ++ [stepB key s d'] ∧ s.length = 36
  | [], ab, d0, d, tk0, tk, h => by
    simp only [List.nil_append, climb] at h
    split at h
    · rename_i hc
      cases h
      exact ⟨d0, tk0, rfl, rfl, rfl, hc.1⟩
    · cases h
  | a :: l, ab, d0, d, tk0, tk, h => by
    simp only [List.cons_append, climb] at h ⊢
    split at h
    · rename_i hc
      rw [if_pos hc]
      exact climb_last h
    · cases h
theorem climb_len {key : Key} : ∀ {l : List (List UInt8)} {ab : Nat} {d0 d : List UInt8} {tk0 tk : List (List UInt8)}, climb key l ab d0 tk0 = some (d, tk) → d0.length = 32 → d.length = 32 ∧ ∀ u ∈ tk0, u ∈ tk
  | [], ab, d0, d, tk0, tk, h, h0 => by cases h; exact ⟨h0, fun u hu => hu⟩
  | a :: l, ab, d0, d, tk0, tk, h, h0 => by
    simp only [climb] at h
    split at h
    · obtain ⟨i1, i2⟩ := climb_len h (Sha.length_sha _)
      exact ⟨i1, fun u hu => i2 u (by simp [hu])⟩
    · cases h
/-- Down from the root: what the leaf's start says holds in the map. -/
theorem descend {key : Key} {d0 : List UInt8} {tk0 : List (List UInt8)} {C : List It → Prop} (h0 : d0.length = 32)
    (hleaf : ∀ (ys : List It) (b : List UInt8), Top ys b → b ∈ treeL ys → NoClash (treeL ys ++ tk0) → Sha.sha b = d0 → (∀ x ∈ ys, x.key.length ≤ 65536) → C ys)
    (hC : ∀ (ys : List It) (t : Nat), Asc ys → 2 ≤ ys.length → top ys = t → (bitN key t = 0 → C (ys.take (zeros t ys)) → C ys) ∧ (bitN key t = 1 → C (ys.drop (zeros t ys)) → C ys)) :
    ∀ (m : Nat) (l : List (List UInt8)) (ys : List It) (d : List UInt8) (tk : List (List UInt8)), l.length ≤ m → climb key l 4294967296 d0 tk0 = some (d, tk) → Asc ys → (∀ x ∈ ys, x.key.length ≤ 65536) → NoClash (treeL ys ++ tk) → rootH ys = d → C ys := by
  intro m
  induction m with
  | zero =>
    intro l ys d tk hl hc ha hk hn hr
    have : l = [] := List.eq_nil_of_length_eq_zero (by omega)
    subst this
    cases hc
    obtain ⟨b, t1, e1, m1⟩ := top_of ha hk
    exact hleaf ys b t1 m1 hn (by rw [← e1, hr]) hk
  | succ m ih =>
    intro l ys d tk hl hc ha hk hn hr
    rcases List.eq_nil_or_concat l with rfl | ⟨l', s, rfl⟩
    · cases hc
      obtain ⟨b, t1, e1, m1⟩ := top_of ha hk
      exact hleaf ys b t1 m1 hn (by rw [← e1, hr]) hk
    · rw [List.concat_eq_append] at hc hl
      obtain ⟨d', tk', c1, rfl, rfl, hs⟩ := climb_last hc
      obtain ⟨l1, _⟩ := climb_len c1 h0
      obtain ⟨b, t1, e1, m1⟩ := top_of ha hk
      have hmem : stepB key s d' ∈ treeL ys ++ (tk' ++ [stepB key s d']) := by simp
      have he := hn b (by simp [m1]) (stepB key s d') hmem (by rw [← e1, hr])
      have hsd : (s.drop 4).length = 32 := by rw [List.length_drop, hs]
      have hv := val4_lt s
      have hsub : ∀ u ∈ tk', u ∈ tk' ++ [stepB key s d'] := fun u hu => by simp [hu]
      cases t1 with
      | nil => unfold stepB at he; split at he <;> simp [nodeB] at he
      | one y => unfold stepB at he; split at he <;> simp [nodeB, leafB] at he
      | two t h2 ht htl z0 z1 =>
        obtain ⟨s1, s2⟩ := tree_take h2 ht z0 z1
        obtain ⟨q1, q2⟩ := hC ys t ha h2 ht
        rw [List.length_append, List.length_singleton] at hl
        unfold stepB at he
        split at he
        · rename_i hb
          obtain ⟨f1, f2, _⟩ := nodeB_inj htl hv (by rw [rootH_len (ha.take _), l1]) he
          refine q1 (by rw [f1]; exact hb) (ih l' _ d' tk' (by omega) c1 (ha.take _) (fun x h => hk x (List.mem_of_mem_take h)) (hn.sub fun u hu => ?_) f2)
          rcases List.mem_append.1 hu with h | h
          · exact List.mem_append.2 (.inl (s1 u h))
          · exact List.mem_append.2 (.inr (hsub u h))
        · rename_i hb
          obtain ⟨f1, _, f3⟩ := nodeB_inj htl hv (by rw [rootH_len (ha.take _), hsd]) he
          refine q2 (by rw [f1]; have := bitN_le key (val4 s); omega) (ih l' _ d' tk' (by omega) c1 (ha.drop _) (fun x h => hk x (List.mem_of_mem_drop h)) (hn.sub fun u hu => ?_) f3)
          rcases List.mem_append.1 hu with h | h
          · exact List.mem_append.2 (.inl (s2 u h))
          · exact List.mem_append.2 (.inr (hsub u h))
theorem startP_facts' {x : It} {d : List UInt8} {tk st : List (List UInt8)} (h : startP x = some (d, tk, st)) : d.length = 32 := by
  unfold startP at h
  split at h
  · cases h; exact Sha.length_sha _
  · split at h
    · split at h
      · cases h; exact Sha.length_sha _
      · split at h
        · cases h; exact Sha.length_sha _
        · cases h
    · cases h
/-- What is accepted against the root of a map is true. -/
theorem sound {xs : List It} {x : It} {d : List UInt8} {tk : List (List UInt8)} (ha : Asc xs) (hk : ∀ y ∈ xs, y.key.length ≤ 65536) (hf : followP x = some (d, tk)) (hd : d = rootH xs) (hn : NoClash (treeL xs ++ tk)) : truthP xs x = true := by
  unfold followP at hf
  split at hf
  · rename_i hxk
    cases hst : startP x with
    | none => rw [hst] at hf; cases hf
    | some y =>
      obtain ⟨d0, tk0, st⟩ := y
      rw [hst] at hf
      simp only at hf
      have hd0 := (startP_facts' hst)
      by_cases hp : x.present = true
      · have hs := hst
        unfold startP at hs
        rw [if_pos hp] at hs
        cases hs
        obtain ⟨y, hy, e1, e2⟩ := descend (key := x.key) (C := fun ys => ∃ y ∈ ys, y.key = x.key ∧ y.content = x.content) hd0
          (fun ys b t1 m1 hnc hb hkk => by
            have he := hnc b (by simp [m1]) (leafB x.key (Sha.sha x.content)) (by simp) hb
            cases t1 with
            | nil => simp [leafB] at he
            | two t h2 ht htl z0 z1 => simp [nodeB, leafB] at he
            | one y =>
              have := hkk y (by simp)
              obtain ⟨f1, f2⟩ := leafB_inj (by omega) (by omega) he
              exact ⟨y, by simp, f1, hnc y.content (by rw [treeL_one]; simp) x.content (by simp) f2⟩)
          (fun ys t _ _ _ => ⟨fun _ ⟨y, hy, e⟩ => ⟨y, List.mem_of_mem_take hy, e⟩, fun _ ⟨y, hy, e⟩ => ⟨y, List.mem_of_mem_drop hy, e⟩⟩)
          _ _ xs d tk (Nat.le_refl _) hf ha hk hn hd.symm
        unfold truthP
        cases hfi : xs.find? (fun z => z.key == x.key) with
        | none =>
          have := List.find?_eq_none.1 hfi y hy
          simp [e1] at this
        | some z =>
          have hz := List.mem_of_find?_eq_some hfi
          have hzk : z.key = x.key := by have := List.find?_some hfi; simpa using this
          have h1 := follow_hit x.key xs.length xs (Nat.le_refl _) ha y hy e1
          have h2 := follow_hit x.key xs.length xs (Nat.le_refl _) ha z hz hzk
          rw [h1] at h2
          cases h2
          simp only [hp, e2]
          simp
      · have hnone : ∀ y ∈ xs, y.key ≠ x.key := by
          refine descend (key := x.key) (C := fun ys => ∀ y ∈ ys, y.key ≠ x.key) hd0 ?_ ?_ _ _ xs d tk (Nat.le_refl _) hf ha hk hn hd.symm
          · intro ys b t1 m1 hnc hb hkk
            have hs := hst
            unfold startP at hs
            rw [if_neg hp] at hs
            split at hs
            · split at hs
              · cases hs
                have he := hnc b (by simp [m1]) [2] (by simp) hb
                cases t1 with
                | nil => intro y hy; cases hy
                | one y => simp [leafB] at he
                | two t h2 ht htl z0 z1 => simp [nodeB] at he
              · rename_i l hl
                split at hs
                · rename_i hc
                  cases hs
                  have he := hnc b (by simp [m1]) _ (List.mem_append.2 (.inr (List.mem_singleton.2 rfl))) hb
                  cases t1 with
                  | nil => simp [leafB] at he
                  | two t h2 ht htl z0 z1 => simp [nodeB, leafB] at he
                  | one y =>
                    have := hkk y (by simp)
                    obtain ⟨f1, _⟩ := leafB_inj (by omega) (by rw [List.length_take]; omega) he
                    intro z hz
                    rw [List.mem_singleton.1 hz, f1]
                    exact hc.2.2
                · cases hs
            · cases hs
          · intro ys t hya h2 ht
            obtain ⟨a, z, t', q0, q1, _, htt, ht', z0, z1⟩ := hya.parts h2
            have : t' = t := by rw [ht] at ht'; omega
            subst this
            refine ⟨fun hb hc y hy e => ?_, fun hb hc y hy e => ?_⟩
            · obtain ⟨i, hi⟩ := List.getElem?_of_mem hy
              refine hc y (List.mem_of_getElem? (i := i) ?_) e
              have hz : i < zeros t' ys := Nat.lt_of_not_le fun hge => by
                have := right_one hya q0 q1 htt hi hge
                rw [e, hb] at this
                cases this
              rw [List.getElem?_take, if_pos hz]
              exact hi
            · obtain ⟨i, hi⟩ := List.getElem?_of_mem hy
              have hz : zeros t' ys ≤ i := Nat.le_of_not_lt fun hlt => by
                have := left_zero hi hlt
                rw [e, hb] at this
                cases this
              refine hc y (List.mem_of_getElem? (i := i - zeros t' ys) ?_) e
              rw [List.getElem?_drop, show zeros t' ys + (i - zeros t' ys) = i by omega]
              exact hi
        unfold truthP
        cases hfi : xs.find? (fun z => z.key == x.key) with
        | none => simpa using hp
        | some z =>
          have hz := List.mem_of_find?_eq_some hfi
          have hzk : z.key = x.key := by have := List.find?_some hfi; simpa using this
          exact absurd hzk (hnone z hz)
  · cases hf
end Ob

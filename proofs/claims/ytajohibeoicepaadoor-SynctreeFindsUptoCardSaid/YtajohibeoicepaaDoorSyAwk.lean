/-
  The chapter's examples: awake is true.
-/
import Derived.Test.YtajohibeoicepaaDoorSyAns
import Derived.Test.YtajohibeoicepaaDoorSyDif
namespace Sy
def zI : I64 := ⟨0, by decide⟩
def cmA : Cm := ⟨⟨1, by decide⟩, ⟨1, by decide⟩, zI, [], zI, []⟩
def cmB : Cm := ⟨⟨1, by decide⟩, ⟨2, by decide⟩, zI, [], zI, []⟩
theorem part_nil (s : List Cm) : part [] s = s := by simp [part]
theorem awk_02 : part [0, 2] [cmA, cmB] = [cmA, cmB] := by
  have h1 : ([0, 2] : List UInt8).isPrefixOf (digs (enc cmA)) = true := by decide +kernel
  have h2 : ([0, 2] : List UInt8).isPrefixOf (digs (enc cmB)) = true := by decide +kernel
  simp only [part, List.filter_cons, h1, h2, if_pos, List.filter_nil]
theorem awk_1 : part [1] [cmA, cmB] = [] := by
  have h1 : ([1] : List UInt8).isPrefixOf (digs (enc cmA)) = false := by decide +kernel
  have h2 : ([1] : List UInt8).isPrefixOf (digs (enc cmB)) = false := by decide +kernel
  simp [part, h1, h2]
theorem awk_sz : ∀ x ∈ [cmA, cmB], csz x ≤ 1000 := by decide +kernel
theorem awk_valid : valid (dig [cmA, cmB] [0, 2]) = true := by
  unfold valid dig
  rw [awk_02]
  simp [Sha.length_sha]
theorem awk_vb : valid (dig [cmB] []) = true := by
  unfold valid dig
  rw [part_nil]
  simp [Sha.length_sha]
theorem awk_ns : ¬ same (dig [cmA, cmB] []) (dig [cmB] []) = true := by
  unfold same dig
  rw [part_nil, part_nil]
  simp
theorem awk_m : ansMs [cmA, cmB] [dig [cmB] []] = [dig [cmA, cmB] []] := by
  have h1 : (dig [cmB] []).pre = [] := rfl
  have h2 : (dig [cmB] []).count = 1 := by simp [dig, part_nil]
  simp only [ansMs, List.flatMap_cons, List.flatMap_nil, List.append_nil, ansM, h1, h2, part_nil]
  rw [if_pos ⟨awk_vb, awk_ns, by decide⟩]
  simp
theorem awk_f : ansFs [cmA, cmB] [dig [cmB] []] = [cmA, cmB] := by
  have h1 : (dig [cmB] []).pre = [] := rfl
  have h2 : (dig [cmB] []).count = 1 := by simp [dig, part_nil]
  simp only [ansFs, List.flatMap_cons, List.flatMap_nil, List.append_nil, ansF, h1, h2, part_nil]
  rw [if_pos ⟨awk_vb, awk_ns⟩]
  simp
theorem awk_d : diff 2002 [cmA, cmB] [cmB] [] = [[]] := by
  rw [diff, if_neg awk_ns, if_pos]
  simp [part_nil]
theorem awk_s : diff 2002 [cmA, cmB] [cmA, cmB] [] = [] := by
  rw [diff, if_pos]
  simp [same]
end Sy
namespace Go.Proofs.YtajohibeoicepaaDoor
open Go.RowKit Go.Pl
theorem rde_lits {w : World} {b : Nat} {S : Nat → Prop} (hS : S b) (xs : List Sy.Cm) (vs : List Value) (h : Blk w b 39 vs.toArray) (hE : Els lCm w S xs vs) (hl : xs.length ≤ 100) : RdE lCm w S (some ⟨b, 0, none⟩) xs.length xs.length xs := by
  have h2 := hE.len
  refine ⟨vs, ⟨h2, Nat.le_refl _, by simp only [maxLen]; omega, (fun e => by cases e), fun _ => ⟨b, 0, rfl, hS, h.lt, fun i hi => ?_⟩⟩, hE⟩
  rw [h.cell, Nat.zero_add]; simp
theorem els_bare {w : World} {S : Nat → Prop} (x : Sy.Cm) (hw : x.writes = []) (ht : x.tag = []) : lCm.R w S x (cmv x (.slice none 0 0) (.slice none 0 0)) :=
  ⟨none, 0, 0, none, 0, 0, rfl, by rw [hw]; exact RdE.nil _ _ _, by rw [ht]; exact ⟨rfl, Nat.le_refl _, by simp [maxLen], fun _ => rfl, fun h => by omega⟩⟩
abbrev cvA : Array Value := #[.int .i64 1, .int .i64 1, .int .i64 0, .slice none 0 0, .int .i64 0, .slice none 0 0]
abbrev cvB : Array Value := #[.int .i64 1, .int .i64 2, .int .i64 0, .slice none 0 0, .int .i64 0, .slice none 0 0]
abbrev cvAB : Array Value := #[.int .i64 1, .int .i64 1, .int .i64 0, .slice none 0 0, .int .i64 0, .slice none 0 0, .int .i64 1, .int .i64 2, .int .i64 0, .slice none 0 0, .int .i64 0, .slice none 0 0]
set_option maxRecDepth 100000 in
theorem awake_any (w : World) (hK : Kst w) : Calls Tryd.prog 9 #[] w fun e w' => e = .returned (.bool true) ∧ Below w.heap.size w w' := by
  have hKd := Lib.hid hK
  clear hK
  go_enter Tryd.func9, Tryd.ntmps9
  go_wp2_with fail
  obtain ⟨w4, hw4⟩ : ∃ w4, (((w.alloc (.cells cvA 39)).alloc (.cells cvB 39)).alloc (.cells cvAB 39)).alloc (.cells #[.int .u8 0, .int .u8 2] 5) = w4 := ⟨_, rfl⟩
  obtain ⟨s, hs0⟩ : ∃ s, Hid (w.heap.size = s) := ⟨_, rfl⟩
  have hb4 : Hid (Below s w w4) := by show Below _ _ _; rw [← hw4, ← hs0.out]; exact (((((Below.refl _ w).alloc (Nat.le_refl _) _).alloc (by simp) _).alloc (by simp; omega) _).alloc (by simp; omega) _)
  have kB : Hid (Blk w4 (s + 1) 39 cvB) := by show Blk _ _ _ _; rw [← hw4, ← hs0.out]; exact ((Blk.new' (by simp)).alloc _).alloc _
  have kS : Hid (Blk w4 (s + 1 + 1) 39 cvAB) := by show Blk _ _ _ _; rw [← hw4, ← hs0.out]; exact (Blk.new' (by simp)).alloc _
  have kP : Hid (Blk w4 (s + 1 + 1 + 1) 5 #[.int .u8 0, .int .u8 2]) := by show Blk _ _ _ _; rw [← hw4, ← hs0.out]; exact Blk.new' (by simp)
  have hS4 : Hid (RdE lCm w4 (fun i => i = s + 1 + 1) (some ⟨s + 1 + 1, 0, none⟩) 2 2 [Sy.cmA, Sy.cmB]) :=
    rde_lits (S := fun i => i = s + 1 + 1) rfl [Sy.cmA, Sy.cmB] cvAB.toList kS.out ⟨cvA.toList, cvB.toList, rfl, els_bare Sy.cmA rfl rfl, Els.single (els_bare Sy.cmB rfl rfl)⟩ (by decide)
  have hP4 : Hid (Rd w4 (fun i => i < w4.heap.size) (some ⟨s + 1 + 1 + 1, 0, none⟩) 2 2 [0, 2]) := ⟨rfl, Nat.le_refl _, by simp [maxLen], (fun e => by cases e), fun _ => ⟨s + 1 + 1 + 1, 0, rfl, kP.out.lt, kP.out.lt, fun i hi => by
    have : i = 0 ∨ i = 1 := by omega
    rcases this with rfl | rfl
    · exact (kP.out.cell 0).trans rfl
    · exact (kP.out.cell 1).trans rfl⟩⟩
  have upS : Hid (∀ w', Below w4.heap.size w4 w' → RdE lCm w' (fun i => i < w'.heap.size) (some ⟨s + 1 + 1, 0, none⟩) 2 2 [Sy.cmA, Sy.cmB]) := fun w' h => (hS4.out.fr (Fr.of_below (F := fun _ => False) h) (fun _ _ h => h)).mono (fun i hi _ => hi)
  have upK : Hid (∀ w', Below w4.heap.size w4 w' → Kst w') := fun w' h => (hKd.out.below hb4.out (hs0.out ▸ hKd.out.pos)).below h (Nat.lt_of_lt_of_le hKd.out.pos (Nat.le_trans (Nat.le_refl _) hb4.out.size))
  have hsz : Hid (∀ x ∈ [Sy.cmA, Sy.cmB], Sy.csz x ≤ 30000000) := fun x h => Nat.le_trans (Sy.awk_sz x h) (by decide)
  rw [hw4, hs0.out]
  clear hw4
  refine (digest_any w4 (upK.out _ (Below.refl _ _)) (upS.out _ (Below.refl _ _)) (by decide) hsz.out hP4.out (by decide)).mono ?_
  rintro e w5 ⟨P5, p5, q5, A5, n5, c5, rfl, hp5, ha5, hb5⟩
  have hp5l : p5 = 2 := hp5.len
  have ha5l : n5 = 32 := by rw [ha5.len, Sha.length_sha]
  subst hp5l ha5l
  have hb5d : Hid (Below w4.heap.size w4 w5) := hb5
  have hp5d := Lib.hid hp5
  have ha5d := Lib.hid ha5
  rw [Sy.awk_02, show (([Sy.cmA, Sy.cmB].length : Nat) : Int) = 2 from rfl]
  clear hp5 ha5 hb5
  go_wp2_with fail
  obtain ⟨w6, hw6⟩ : ∃ w6, w5.alloc (.cells #[.slice P5 2 q5, .slice A5 32 c5, .int .i64 2] 30) = w6 := ⟨_, rfl⟩
  have hb56 : Hid (Below w5.heap.size w5 w6) := by show Below _ _ _; rw [← hw6]; exact (Below.refl _ _).alloc (Nat.le_refl _) _
  have hb46 : Hid (Below w4.heap.size w4 w6) := hb5d.out.trans (hb56.out.mono hb5d.out.size)
  rw [hw6]
  clear hw6
  have hv := valid_any (Sy.dig [Sy.cmA, Sy.cmB] [0, 2]) w6 (hp5d.out.fr (Fr.of_below (F := fun _ => False) hb56.out) (fun _ _ h => h)) (ha5d.out.fr (Fr.of_below (F := fun _ => False) hb56.out) (fun _ _ h => h))
  rw [Sy.awk_valid, show (Sy.dig [Sy.cmA, Sy.cmB] [0, 2]).count = 2 by simp [Sy.dig, Sy.awk_02]] at hv
  refine hv.mono ?_
  rintro e w7 ⟨rfl, hb7⟩
  have hb47 : Hid (Below w4.heap.size w4 w7) := hb46.out.trans (hb7.mono hb46.out.size)
  clear hv hb7 hb46 hb56 hp5d ha5d hb5d
  go_wp2_with fail
  obtain ⟨w8, hw8⟩ : ∃ w8, w7.alloc (.cells #[.int .u8 1] 5) = w8 := ⟨_, rfl⟩
  have hb78 : Hid (Below w7.heap.size w7 w8) := by show Below _ _ _; rw [← hw8]; exact (Below.refl _ _).alloc (Nat.le_refl _) _
  have hb48 : Hid (Below w4.heap.size w4 w8) := hb47.out.trans (hb78.out.mono hb47.out.size)
  have k8 : Hid (Blk w8 w7.heap.size 5 #[.int .u8 1]) := by show Blk _ _ _ _; rw [← hw8]; exact Blk.new' rfl
  have hP8 : Hid (Rd w8 (fun i => i < w8.heap.size) (some ⟨w7.heap.size, 0, none⟩) 1 1 [1]) := ⟨rfl, Nat.le_refl _, by simp [maxLen], (fun e => by cases e), fun _ => ⟨w7.heap.size, 0, rfl, k8.out.lt, k8.out.lt, fun i hi => by
    obtain rfl : i = 0 := by omega
    exact (k8.out.cell 0).trans rfl⟩⟩
  rw [hw8]
  clear hw8
  refine (part_any w8 (fun i h => h) (upS.out _ hb48.out) (by decide) hsz.out hP8.out).mono ?_
  rintro e w9 ⟨A9, n9, c9, rfl, hr9, hb9⟩
  have hn9 : n9 = 0 := by rw [hr9.len, Sy.awk_1]; rfl
  subst hn9
  have hb49 : Hid (Below w4.heap.size w4 w9) := hb48.out.trans (hb9.mono hb48.out.size)
  clear hr9 hb9 hb47 hb78 hb48 k8 hP8
  go_wp2_with fail
  have hPn : Hid (∀ w', Rd w' (fun i => i < w'.heap.size) none 0 0 []) := fun w' => ⟨rfl, Nat.le_refl _, by simp [maxLen], fun _ => rfl, fun h => by omega⟩
  refine (kids_any w9 (upK.out _ hb49.out) (upS.out _ hb49.out) (by decide) hsz.out (hPn.out w9) (by decide)).mono ?_
  rintro e v1 ⟨A1, c1, rfl, -, hb1⟩
  have hb41 : Hid (Below w4.heap.size w4 v1) := hb49.out.trans (hb1.mono hb49.out.size)
  have kB1 := kB.out.fr (Fr.of_below (F := fun _ => False) hb41.out) (fun h => h)
  have b0 : v1.cell? ⟨s + 1, 0, none⟩ = some (.int .i64 1) := (kB1.cell 0).trans rfl
  have b1 : v1.cell? ⟨s + 1, 1, none⟩ = some (.int .i64 2) := (kB1.cell 1).trans rfl
  have b2 : v1.cell? ⟨s + 1, 2, none⟩ = some (.int .i64 0) := (kB1.cell 2).trans rfl
  have b3 : v1.cell? ⟨s + 1, 3, none⟩ = some (.slice none 0 0) := (kB1.cell 3).trans rfl
  have b4 : v1.cell? ⟨s + 1, 4, none⟩ = some (.int .i64 0) := (kB1.cell 4).trans rfl
  have b5 : v1.cell? ⟨s + 1, 5, none⟩ = some (.slice none 0 0) := (kB1.cell 5).trans rfl
  clear hb1 hb49 kB1
  go_wp2_with fail
  clear b0 b1 b2 b3 b4 b5
  obtain ⟨v2, hv2⟩ : ∃ v2, v1.alloc (.cells cvB 39) = v2 := ⟨_, rfl⟩
  have hb12 : Hid (Below v1.heap.size v1 v2) := by show Below _ _ _; rw [← hv2]; exact (Below.refl _ _).alloc (Nat.le_refl _) _
  have hb42 : Hid (Below w4.heap.size w4 v2) := hb41.out.trans (hb12.out.mono hb41.out.size)
  have k2 : Hid (Blk v2 v1.heap.size 39 cvB) := by show Blk _ _ _ _; rw [← hv2]; exact Blk.new' rfl
  have hT2 : Hid (RdE lCm v2 (fun i => i < v2.heap.size) (some ⟨v1.heap.size, 0, none⟩) 1 1 [Sy.cmB]) := (rde_lits (S := fun i => i = v1.heap.size) rfl [Sy.cmB] cvB.toList k2.out (Els.single (els_bare Sy.cmB rfl rfl)) (by decide)).mono (fun i hi _ => hi)
  have hszB : Hid (∀ x ∈ [Sy.cmB], Sy.csz x ≤ 30000000) := fun x h => hsz.out x (by simp at h; simp [h])
  rw [hv2]
  clear hv2
  refine (digest_any v2 (upK.out _ hb42.out) hT2.out (by decide) hszB.out (hPn.out v2) (by decide)).mono ?_
  rintro e v3 ⟨P3, p3, q3, A3, n3, c3, rfl, hp3, ha3, hb3⟩
  have hp3l : p3 = 0 := hp3.len
  subst hp3l
  have hb43 : Hid (Below w4.heap.size w4 v3) := hb42.out.trans (hb3.mono hb42.out.size)
  have hp3d := Lib.hid hp3
  have ha3d := Lib.hid ha3
  rw [Sy.part_nil, show (([Sy.cmB].length : Nat) : Int) = 1 from rfl]
  clear hp3 ha3 hb3 hb42 hb12 k2 hT2
  go_wp2_with fail
  obtain ⟨v4, hv4⟩ : ∃ v4, v3.alloc (.cells #[.slice P3 0 q3, .slice A3 n3 c3, .int .i64 1] 30) = v4 := ⟨_, rfl⟩
  have hb34 : Hid (Below v3.heap.size v3 v4) := by show Below _ _ _; rw [← hv4]; exact (Below.refl _ _).alloc (Nat.le_refl _) _
  have hb44 : Hid (Below w4.heap.size w4 v4) := hb43.out.trans (hb34.out.mono hb43.out.size)
  have k4 : Hid (Blk v4 v3.heap.size 30 #[.slice P3 0 q3, .slice A3 n3 c3, .int .i64 1]) := by show Blk _ _ _ _; rw [← hv4]; exact Blk.new' rfl
  have hQ4 : Hid (RdE lDg v4 (fun i => i < v4.heap.size) (some ⟨v3.heap.size, 0, none⟩) 1 1 [Sy.dig [Sy.cmB] []]) := by
    have hf := Fr.of_below (F := fun _ => False) hb34.out
    refine ⟨[.slice P3 0 q3, .slice A3 n3 c3, .int .i64 1], ⟨rfl, Nat.le_refl _, by simp [maxLen], (fun e => by cases e), fun _ => ⟨v3.heap.size, 0, rfl, k4.out.lt, k4.out.lt, fun i _ => ?_⟩⟩, Els.single ⟨P3, 0, q3, A3, n3, c3, ?_, (hp3d.out.fr hf (fun _ _ h => h)).mono (fun i hi _ => hi), (ha3d.out.fr hf (fun _ _ h => h)).mono (fun i hi _ => hi)⟩⟩
    · rw [k4.out.cell, Nat.zero_add]; simp
    · simp [Sy.dig, Sy.part_nil]
  rw [hv4]
  clear hv4
  refine (answer_any v4 (upK.out _ hb44.out) (upS.out _ hb44.out) (by decide) hsz.out hQ4.out (by decide) (fun d h => by simp at h; subst h; simp [Sy.dig])).mono ?_
  rintro e v5 ⟨A5, n5, c5, A6, n6, c6, rfl, hm5, hf5, hb5⟩
  rw [Sy.awk_m] at hm5
  rw [Sy.awk_f] at hf5
  have hn5 : n5 = 1 := hm5.len
  have hn6 : n6 = 2 := hf5.len
  subst hn5 hn6
  have hb45 : Hid (Below w4.heap.size w4 v5) := hb44.out.trans (hb5.mono hb44.out.size)
  have hm5d := Lib.hid hm5
  have kB5 := kB.out.fr (Fr.of_below (F := fun _ => False) hb45.out) (fun h => h)
  have b0 : v5.cell? ⟨s + 1, 0, none⟩ = some (.int .i64 1) := (kB5.cell 0).trans rfl
  have b1 : v5.cell? ⟨s + 1, 1, none⟩ = some (.int .i64 2) := (kB5.cell 1).trans rfl
  have b2 : v5.cell? ⟨s + 1, 2, none⟩ = some (.int .i64 0) := (kB5.cell 2).trans rfl
  have b3 : v5.cell? ⟨s + 1, 3, none⟩ = some (.slice none 0 0) := (kB5.cell 3).trans rfl
  have b4 : v5.cell? ⟨s + 1, 4, none⟩ = some (.int .i64 0) := (kB5.cell 4).trans rfl
  have b5 : v5.cell? ⟨s + 1, 5, none⟩ = some (.slice none 0 0) := (kB5.cell 5).trans rfl
  clear hm5 hf5 hb5 kB5 hb44 hb34 k4 hQ4 hp3d ha3d hb43
  go_wp2_with fail
  clear b0 b1 b2 b3 b4 b5
  obtain ⟨v6, hv6⟩ : ∃ v6, v5.alloc (.cells cvB 39) = v6 := ⟨_, rfl⟩
  have hb56 : Hid (Below v5.heap.size v5 v6) := by show Below _ _ _; rw [← hv6]; exact (Below.refl _ _).alloc (Nat.le_refl _) _
  have hb46 : Hid (Below w4.heap.size w4 v6) := hb45.out.trans (hb56.out.mono hb45.out.size)
  have k6 : Hid (Blk v6 v5.heap.size 39 cvB) := by show Blk _ _ _ _; rw [← hv6]; exact Blk.new' rfl
  have hT6 : Hid (RdE lCm v6 (fun i => i < v6.heap.size) (some ⟨v5.heap.size, 0, none⟩) 1 1 [Sy.cmB]) := (rde_lits (S := fun i => i = v5.heap.size) rfl [Sy.cmB] cvB.toList k6.out (Els.single (els_bare Sy.cmB rfl rfl)) (by decide)).mono (fun i hi _ => hi)
  have hszb : Hid (∀ x ∈ [Sy.cmB], Sy.csz x ≤ 1000) := fun x h => Sy.awk_sz x (by simp at h; simp [h])
  rw [hv6]
  clear hv6
  refine (diffs_any v6 (upK.out _ hb46.out) (upS.out _ hb46.out) hT6.out (by decide) (by decide) Sy.awk_sz hszb.out).mono ?_
  rintro e v7 ⟨A7, n7, c7, rfl, hd7, hb7⟩
  rw [Sy.awk_d] at hd7
  have hn7 : n7 = 1 := hd7.len
  subst hn7
  have hb67 : Hid (Below v6.heap.size v6 v7) := hb7
  have hb47 : Hid (Below w4.heap.size w4 v7) := hb46.out.trans (hb7.mono hb46.out.size)
  obtain ⟨mb, mo, mu, rfl, -, -, ⟨MP, mp, mq, MD, md, me, rfl, -, -⟩, hmc⟩ := (hm5d.out.fr (Fr.of_below (F := fun _ => False) (hb56.out.trans (hb67.out.mono hb56.out.size))) (fun _ _ h => h)).get (i := 0) rfl
  have m2 : v7.cell? ⟨mb, mo + 2, none⟩ = some (.int .i64 2) := (hmc 2 _ rfl).trans (by simp [Sy.dig, Sy.part_nil])
  obtain ⟨db, d0, du, rfl, -, -, ⟨DP, dp, dq, rfl, hdp⟩, hdc⟩ := hd7.get (i := 0) rfl
  have hdl : dp = 0 := hdp.len
  subst hdl
  have d0' : v7.cell? ⟨db, d0, none⟩ = some (.slice DP 0 dq) := hdc 0 _ rfl
  clear hmc hdc hdp hb7 hm5d hd7
  go_wp2_with fail
  refine (diffs_any v7 (upK.out _ hb47.out) (upS.out _ hb47.out) (upS.out _ hb47.out) (by decide) (by decide) Sy.awk_sz Sy.awk_sz).mono ?_
  rintro e v8 ⟨A8, n8, c8, rfl, hd8, hb8⟩
  rw [Sy.awk_s] at hd8
  have hn8 : n8 = 0 := hd8.len
  subst hn8
  have hb48 : Hid (Below w4.heap.size w4 v8) := hb47.out.trans (hb8.mono hb47.out.size)
  clear hb8 hd8 m2 d0'
  go_wp2_with fail
  go_returns
  refine ⟨rfl, ?_⟩
  have h := hs0.out
  rw [h]
  exact hb4.out.trans (hb48.out.mono (by have := hb4.out.size; omega))
end Go.Proofs.YtajohibeoicepaaDoor

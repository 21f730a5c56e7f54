/-
  Bits of codes, first differences and leaves are as the reference has them.
-/
import Derived.Test.YthoaenpbmmjokaaDoorArg
import Derived.Test.YthoaenpbmmjokaaDoorObAwk
namespace Go.Pl
open Go.RowKit
section
variable {P : Program} {ops : Array Oper} {rest : List Oper} {o : Oper} {a : Act} {Q : Exit → Act → World → Prop} {w : World}
/-- Bytes of a string, under a guard that says yes. -/
theorem wpl_bytes_str_w (hgd : Region.wanted o (yielded ops a.tmps) = true) (src dst e : TypeId) (x : Operand) (ho : o.op = .convert src dst x)
    (hs : P.underlying src = some .string) (hd : P.underlying dst = some (.slice e)) (he : P.underlying e = some (.int .u8)) (bs : List UInt8) (hx : a.eval x = .string ⟨bs.toArray⟩) (hl : bs.length ≤ maxLen)
    (h : ∀ c w', Dig w' w.heap.size e c bs → w.grownBy w' none → wpList P ops Q rest (a.put o.dst (.slice (some ⟨w.heap.size, 0, none⟩) bs.length c)) w') : wpList P ops Q (o :: rest) a w := by
  have hr := run_bytes_of_string (P := P) w src dst e ⟨bs.toArray⟩ hs hd he
  have hsz : (ByteArray.mk bs.toArray).size = bs.length := by simp [ByteArray.size]
  rw [hsz] at hr
  have hge := grownCap_ge w bs.length 0 e
  have hmx := grownCap_le_maxLen w bs.length 0 e hl
  simp only [wpList]
  rw [if_pos hgd]
  refine .inl ?_
  unfold Oper.wp execOp
  simp only [ho, hx, Sem.run_bind, hr, Result.andThen_ok, Sem.run_pure]
  have hcs : (bytesRow ⟨bs.toArray⟩ (grownCap w bs.length 0 e)).size = grownCap w bs.length 0 e := by
    simp [bytesRow, hsz]; omega
  refine h _ _ ⟨bytesRow ⟨bs.toArray⟩ (grownCap w bs.length 0 e), ?_, hcs, hge, hmx, ?_⟩ ⟨rfl, rfl, rfl, by simp, fun k hk _ => Below.heap_alloc w.drew _ k hk⟩
  · rw [hcs]; exact heap_alloc_new w.drew _
  · simp [bytesRow, u8v]
end
end Go.Pl
namespace Go.Proofs.YthoaenpbmmjokaaDoor.objecttreeBits
open Go.ChangeShapes Go.WideShapes Go.ChangeAt Go.RowKit Go.Pl
theorem refbit_neg (w : World) (k : Ob.Key) (i : Int) (hi : i < 0) :
    Calls Tryd.prog 22 #[.string ⟨k.toArray⟩, .int .i64 i] w fun e w' => e = .returned (.int .i64 0) ∧ w = w' := by
  go_enter Tryd.func22, Tryd.ntmps22
  go_wp2_with fail
  go_ret
  exact ⟨rfl, rfl⟩
theorem bits (w : World) (k : Ob.Key) (i : Int) (hl : k.length ≤ 300) (hi : -9223372036854775808 ≤ i ∧ i ≤ 9223372036854775807) :
    ∃ x : Int, (Calls Tryd.prog 21 #[.string ⟨k.toArray⟩, .int .i64 i] w fun e w' => e = .returned (.int .i64 x) ∧ w = w') ∧ (Calls Tryd.prog 22 #[.string ⟨k.toArray⟩, .int .i64 i] w fun e w' => e = .returned (.int .i64 x) ∧ w = w') := by
  by_cases h : i < 0
  · exact ⟨0, bit_neg w k i h, refbit_neg w k i h⟩
  · obtain ⟨n, rfl⟩ : ∃ n : Nat, i = n := ⟨i.toNat, by omega⟩
    exact ⟨_, bit_any w k n (by omega) (by omega), refbit_any w k n (by omega) (by omega)⟩
set_option maxRecDepth 100000 in
set_option maxHeartbeats 2000000 in
theorem walkl {a b : Ob.Key} {i : Int} (hi : -9223372036854775808 ≤ i ∧ i ≤ 9223372036854775807) (w : World) (hK : Kst w) (ha : a.length ≤ 300) (hb : b.length ≤ 300) :
    Calls Tryd.prog 5 #[.string ⟨a.toArray⟩, .string ⟨b.toArray⟩, .int .i64 i] w fun e w' => e = .returned (.bool true) ∧ Below w.heap.size w w' := by
  have hsa : (⟨a.toArray⟩ : ByteArray).size = a.length := by simp [ByteArray.size]
  have hsb : (⟨b.toArray⟩ : ByteArray).size = b.length := by simp [ByteArray.size]
  have haI : decide (300 < a.length) = false := by simp; omega
  have haJ : decide (300 < (a.length : Int)) = false := by simp; omega
  have hbI : decide (300 < b.length) = false := by simp; omega
  have hbJ : decide (300 < (b.length : Int)) = false := by simp; omega
  go_enter Tryd.func5, Tryd.ntmps5
  go_wp2_with fail
  refine (awake_any _ hK).mono ?_
  rintro e w1 ⟨rfl, hb1⟩
  go_wp2_with fail
  refine wp_region_late Ab Ab.refl Ab.trans [] (.one [0, 1, 3, 4] [] 2 (.one [] [] 5 (.one [6, 7, 8, 9, 11, 12] [] 10 (.one [] [] 13 (.two [14, 15, 16, 17, 18, 22, 23] [] 19 (.two [] [] 20 (.one [] [21] 24 (.one [] [] 25 (.last [] [26, 27, 28, 29]))) 24 (.one [] [] 20 (.one [] [21] 25 (.last [] [26, 27, 28, 29])))) 24 (.one [] [] 19 (.one [] [] 20 (.one [] [21] 25 (.last [] [26, 27, 28, 29]))))))))) (by kernel_rfl) (by kernel_rfl) (fun _ _ _ _ _ h => h) ?_
  simp only [wpSchV, ordPick, Option.toList_some, List.cons_append, List.nil_append, List.getElem?_cons_succ, List.getElem?_cons_zero]
  have hb2 : Hid (Below w.heap.size w w1.drew) := hb1.trans ((ab_drew w1).mono hb1.size)
  clear hb1
  generalize w1.drew = w2 at hb2 ⊢
  obtain ⟨x, hx1, hx2⟩ := bits w2 a i ha hi
  have hx1d := Lib.hid hx1
  have hx2d := Lib.hid hx2
  clear hx1 hx2
  iterate 4 (go_big_quiet_step (exact fun _ => rfl))
  refine wpQuiet_nil (wpQuiet_nil ?_)
  go_wp2_with fail
  refine hx1d.out.mono ?_
  rintro e w3 ⟨rfl, rfl⟩
  go_wp2_with fail
  refine And.intro (.inr (Ab.refl _)) ?_
  simp only
  refine wpQuiet_nil (wpQuiet_nil ?_)
  go_wp2_with fail
  refine hx2d.out.mono ?_
  rintro e w3 ⟨rfl, rfl⟩
  go_wp2_with fail
  refine And.intro (.inr (Ab.refl _)) ?_
  simp only
  iterate 6 (go_big_quiet_step (exact fun _ => rfl))
  refine wpQuiet_nil (wpQuiet_nil ?_)
  clear hx1d hx2d
  go_wp2_with fail
  refine (split_any w2 a b (by omega) (by omega)).mono ?_
  rintro e w3 ⟨rfl, hb3⟩
  have hb3d : Hid (Below w.heap.size w w3) := hb2.out.trans (hb3.mono hb2.out.size)
  have ha3 : Hid (Ab w2 w3) := hb3
  clear hb3 hb2
  go_wp2_with fail
  refine And.intro (.inr ha3.out) ?_
  simp only
  refine wpQuiet_nil (wpQuiet_nil ?_)
  go_wp2_with fail
  refine (refsplit_any w3 a b (by omega) (by omega)).mono ?_
  rintro e w4 ⟨rfl, hb4⟩
  have hb4d : Hid (Below w.heap.size w w4) := hb3d.out.trans (hb4.mono hb3d.out.size)
  have ha4 : Hid (Ab w3 w4) := hb4
  clear hb4 hb3d ha3
  go_wp2_with fail
  refine And.intro (.inr ha4.out) ?_
  clear ha4
  simp only
  generalize Ob.split a b = sp
  iterate 7 (go_big_quiet_step (exact fun _ => rfl))
  refine wpQuiet_nil (wpQuiet_nil ?_)
  generalize hG : w4 = W0 at hb4d ⊢
  refine And.intro ?_ ?_
  · go_wp2_with ((with_reducible refine wpl_bytes_str_w rfl 9 23 5 (.tmp 35) rfl ?_ ?_ ?_ b ?_ (by simp only [maxLen]; omega) ?_); rfl; rfl; rfl; rfl; intro c1 W1 hd1 hg1)
    have a1 : Hid (Ab W0 W1) := (Below.refl _ _).grown hg1 (Nat.le_refl _) (fun k hk => by cases hk)
    have r1 : Hid (Rd W1 (fun _ => True) (some ⟨W0.heap.size, 0, none⟩) b.length c1 b) := hd1.rd.mono (fun _ _ _ => trivial)
    have b1 : Hid (Below w.heap.size w W1) := hb4d.out.trans (a1.out.mono hb4d.out.size)
    clear hg1 hd1
    go_wp2_with fail
    refine And.intro (.inr a1.out) ?_
    simp only
    refine wpQuiet_nil (wpQuiet_nil ?_)
    refine And.intro ?_ ?_
    · go_wp2_with fail
      refine (leaf_any W1 (hK.below b1.out hK.pos) a (by omega) r1.out (by omega)).mono ?_
      rintro e W2 ⟨A2, n2, c2, rfl, hr2, hb2⟩
      have r2 := Lib.hid hr2
      have a2 : Hid (Ab W1 W2) := hb2
      have b2 : Hid (Below w.heap.size w W2) := b1.out.trans (hb2.mono b1.out.size)
      clear hr2 hb2
      go_wp2_with fail
      refine And.intro (.inr a2.out) ?_
      simp only
      refine wpQuiet_nil ?_
      refine wpq_string rfl 23 9 5 (.tmp 37) rfl Tryd.underlying23 Tryd.underlying5 Tryd.underlying9 A2 n2 c2 rfl (Ob.leafH a b) (fun w' h => (r2.out.ab h).bytes (fun i hi _ => hi)) ?_
      simp only [Act.put, List.setIfInBounds_toArray, List.set_cons_succ, List.set_cons_zero]
      refine wpQuiet_nil ?_
      go_wp2_with ((with_reducible refine wpl_bytes_str_w rfl 9 23 5 (.tmp 40) rfl ?_ ?_ ?_ b ?_ (by simp only [maxLen]; omega) ?_); rfl; rfl; rfl; rfl; intro c3 W3 hd3 hg3)
      have a3 : Hid (Ab W2 W3) := (Below.refl _ _).grown hg3 (Nat.le_refl _) (fun k hk => by cases hk)
      have r3 : Hid (Rd W3 (fun _ => True) (some ⟨W2.heap.size, 0, none⟩) b.length c3 b) := hd3.rd.mono (fun _ _ _ => trivial)
      have b3 : Hid (Below w.heap.size w W3) := b2.out.trans (a3.out.mono b2.out.size)
      clear hg3 hd3
      go_wp2_with fail
      refine And.intro (.inr a3.out) ?_
      simp only
      refine wpQuiet_nil (wpQuiet_nil ?_)
      go_wp2_with fail
      refine (refleaf_any W3 a (by omega) r3.out (by omega)).mono ?_
      rintro e W4 ⟨A4, n4, c4, rfl, hr4, hb4⟩
      have r4 := Lib.hid hr4
      have a4 : Hid (Ab W3 W4) := hb4
      have b4 : Hid (Below w.heap.size w W4) := b3.out.trans (hb4.mono b3.out.size)
      clear hr4 hb4
      go_wp2_with fail
      refine And.intro (.inr a4.out) ?_
      simp only
      refine wpQuiet_nil ?_
      refine wpq_string rfl 23 9 5 (.tmp 42) rfl Tryd.underlying23 Tryd.underlying5 Tryd.underlying9 A4 n4 c4 rfl (Ob.leafH a b) (fun w' h => (r4.out.ab h).bytes (fun i hi _ => hi)) ?_
      simp only [Act.put, List.setIfInBounds_toArray, List.set_cons_succ, List.set_cons_zero]
      iterate 3 (go_big_quiet_step (exact fun _ => rfl))
      refine wpQuiet_nil ?_
      go_wp2_with fail
      go_ret
      exact ⟨rfl, b4.out⟩
    · go_wp2_with ((with_reducible refine wpl_bytes_str_w rfl 9 23 5 (.tmp 40) rfl ?_ ?_ ?_ b ?_ (by simp only [maxLen]; omega) ?_); rfl; rfl; rfl; rfl; intro c2 W2 hd2 hg2)
      have a2 : Hid (Ab W1 W2) := (Below.refl _ _).grown hg2 (Nat.le_refl _) (fun k hk => by cases hk)
      have r2 : Hid (Rd W2 (fun _ => True) (some ⟨W1.heap.size, 0, none⟩) b.length c2 b) := hd2.rd.mono (fun _ _ _ => trivial)
      have b2 : Hid (Below w.heap.size w W2) := b1.out.trans (a2.out.mono b1.out.size)
      clear hg2 hd2
      go_wp2_with fail
      refine And.intro (.inr a2.out) ?_
      simp only
      refine wpQuiet_nil (wpQuiet_nil ?_)
      go_wp2_with fail
      refine (leaf_any W2 (hK.below b2.out hK.pos) a (by omega) (r1.out.ab a2.out) (by omega)).mono ?_
      rintro e W3 ⟨A3, n3, c3, rfl, hr3, hb3⟩
      have r3 := Lib.hid hr3
      have a3 : Hid (Ab W2 W3) := hb3
      have b3 : Hid (Below w.heap.size w W3) := b2.out.trans (hb3.mono b2.out.size)
      clear hr3 hb3
      go_wp2_with fail
      refine And.intro (.inr a3.out) ?_
      simp only
      refine wpQuiet_nil ?_
      refine wpq_string rfl 23 9 5 (.tmp 37) rfl Tryd.underlying23 Tryd.underlying5 Tryd.underlying9 A3 n3 c3 rfl (Ob.leafH a b) (fun w' h => (r3.out.ab h).bytes (fun i hi _ => hi)) ?_
      simp only [Act.put, List.setIfInBounds_toArray, List.set_cons_succ, List.set_cons_zero]
      refine wpQuiet_nil ?_
      go_wp2_with fail
      refine (refleaf_any W3 a (by omega) (r2.out.ab a3.out) (by omega)).mono ?_
      rintro e W4 ⟨A4, n4, c4, rfl, hr4, hb4⟩
      have r4 := Lib.hid hr4
      have a4 : Hid (Ab W3 W4) := hb4
      have b4 : Hid (Below w.heap.size w W4) := b3.out.trans (hb4.mono b3.out.size)
      clear hr4 hb4
      go_wp2_with fail
      refine And.intro (.inr a4.out) ?_
      simp only
      refine wpQuiet_nil ?_
      refine wpq_string rfl 23 9 5 (.tmp 42) rfl Tryd.underlying23 Tryd.underlying5 Tryd.underlying9 A4 n4 c4 rfl (Ob.leafH a b) (fun w' h => (r4.out.ab h).bytes (fun i hi _ => hi)) ?_
      simp only [Act.put, List.setIfInBounds_toArray, List.set_cons_succ, List.set_cons_zero]
      iterate 3 (go_big_quiet_step (exact fun _ => rfl))
      refine wpQuiet_nil ?_
      go_wp2_with fail
      go_ret
      exact ⟨rfl, b4.out⟩
  · go_wp2_with ((with_reducible refine wpl_bytes_str_w rfl 9 23 5 (.tmp 40) rfl ?_ ?_ ?_ b ?_ (by simp only [maxLen]; omega) ?_); rfl; rfl; rfl; rfl; intro c1 W1 hd1 hg1)
    have a1 : Hid (Ab W0 W1) := (Below.refl _ _).grown hg1 (Nat.le_refl _) (fun k hk => by cases hk)
    have r1 : Hid (Rd W1 (fun _ => True) (some ⟨W0.heap.size, 0, none⟩) b.length c1 b) := hd1.rd.mono (fun _ _ _ => trivial)
    have b1 : Hid (Below w.heap.size w W1) := hb4d.out.trans (a1.out.mono hb4d.out.size)
    clear hg1 hd1
    go_wp2_with fail
    refine And.intro (.inr a1.out) ?_
    simp only
    refine wpQuiet_nil (wpQuiet_nil ?_)
    go_wp2_with ((with_reducible refine wpl_bytes_str_w rfl 9 23 5 (.tmp 35) rfl ?_ ?_ ?_ b ?_ (by simp only [maxLen]; omega) ?_); rfl; rfl; rfl; rfl; intro c2 W2 hd2 hg2)
    have a2 : Hid (Ab W1 W2) := (Below.refl _ _).grown hg2 (Nat.le_refl _) (fun k hk => by cases hk)
    have r2 : Hid (Rd W2 (fun _ => True) (some ⟨W1.heap.size, 0, none⟩) b.length c2 b) := hd2.rd.mono (fun _ _ _ => trivial)
    have b2 : Hid (Below w.heap.size w W2) := b1.out.trans (a2.out.mono b1.out.size)
    clear hg2 hd2
    go_wp2_with fail
    refine And.intro (.inr a2.out) ?_
    simp only
    refine wpQuiet_nil (wpQuiet_nil ?_)
    go_wp2_with fail
    refine (leaf_any W2 (hK.below b2.out hK.pos) a (by omega) r2.out (by omega)).mono ?_
    rintro e W3 ⟨A3, n3, c3, rfl, hr3, hb3⟩
    have r3 := Lib.hid hr3
    have a3 : Hid (Ab W2 W3) := hb3
    have b3 : Hid (Below w.heap.size w W3) := b2.out.trans (hb3.mono b2.out.size)
    clear hr3 hb3
    go_wp2_with fail
    refine And.intro (.inr a3.out) ?_
    simp only
    refine wpQuiet_nil ?_
    refine wpq_string rfl 23 9 5 (.tmp 37) rfl Tryd.underlying23 Tryd.underlying5 Tryd.underlying9 A3 n3 c3 rfl (Ob.leafH a b) (fun w' h => (r3.out.ab h).bytes (fun i hi _ => hi)) ?_
    simp only [Act.put, List.setIfInBounds_toArray, List.set_cons_succ, List.set_cons_zero]
    refine wpQuiet_nil ?_
    go_wp2_with fail
    refine (refleaf_any W3 a (by omega) ((r1.out.ab a2.out).ab a3.out) (by omega)).mono ?_
    rintro e W4 ⟨A4, n4, c4, rfl, hr4, hb4⟩
    have r4 := Lib.hid hr4
    have a4 : Hid (Ab W3 W4) := hb4
    have b4 : Hid (Below w.heap.size w W4) := b3.out.trans (hb4.mono b3.out.size)
    clear hr4 hb4
    go_wp2_with fail
    refine And.intro (.inr a4.out) ?_
    simp only
    refine wpQuiet_nil ?_
    refine wpq_string rfl 23 9 5 (.tmp 42) rfl Tryd.underlying23 Tryd.underlying5 Tryd.underlying9 A4 n4 c4 rfl (Ob.leafH a b) (fun w' h => (r4.out.ab h).bytes (fun i hi _ => hi)) ?_
    simp only [Act.put, List.setIfInBounds_toArray, List.set_cons_succ, List.set_cons_zero]
    iterate 3 (go_big_quiet_step (exact fun _ => rfl))
    refine wpQuiet_nil ?_
    go_wp2_with fail
    go_ret
    exact ⟨rfl, b4.out⟩
set_option maxRecDepth 100000 in
theorem walk {s t : ByteArray} (w : World) (hK : Kst w) (_hs : s.size ≤ maxLen) (_ht : t.size ≤ maxLen) (i : Int) (hi : -9223372036854775808 ≤ i ∧ i ≤ 9223372036854775807) :
    Calls Tryd.prog 5 #[.string s, .string t, .int .i64 i] w fun e w' => e = .returned (.bool true) ∧ Below w.heap.size w w' := by
  by_cases hs : s.size ≤ 300
  · by_cases ht : t.size ≤ 300
    · exact walkl (a := s.data.toList) (b := t.data.toList) hi w hK (by simpa using hs) (by simpa using ht)
    · have h1 : decide (300 < s.size) = false := by simp; omega
      have h2 : decide (300 < (s.size : Int)) = false := by simp; omega
      have h3 : decide (300 < t.size) = true := by simp; omega
      have h4 : decide (300 < (t.size : Int)) = true := by simp; omega
      go_enter Tryd.func5, Tryd.ntmps5
      go_wp2_with fail
      refine (awake_any _ hK).mono ?_
      rintro e w1 ⟨rfl, hb1⟩
      go_wp2_with fail
      go_ret
      exact ⟨rfl, hb1⟩
  · have h1 : decide (300 < s.size) = true := by simp; omega
    have h2 : decide (300 < (s.size : Int)) = true := by simp; omega
    go_enter Tryd.func5, Tryd.ntmps5
    go_wp2_with fail
    refine (awake_any _ hK).mono ?_
    rintro e w1 ⟨rfl, hb1⟩
    go_wp2_with fail
    go_ret
    exact ⟨rfl, hb1⟩
theorem table {W : World} (h : laidMetH Tryd.prog Rows.objecttreeBitsRow.laid W) : Lib.TabIs Tryd.prog W "plexus/sha256.constants" .u32 (Sha.K.map fun (n : Nat) => (n : Int)) :=
  Lib.tabIs_of_head (rest := []) gTab gTabType Tryd.underlying69 Tryd.underlying64 cellsWord cellsTab h
theorem contract (H : Type) (enc : TypeId × Value → H) (W : World) (base : Nat) (args : Array Value) (ds gs : List (DataW H)) (before : List MemPlace)
    (hval : ∀ (j : Nat) t v, Tryd.f5.params[j]? = some t → args[j]? = some v → Value.okWide Tryd.prog W .any base t v)
    (hW : DataW.Whole enc Tryd.prog Tryd.f5.params.toList Rows.objecttreeBitsSpec.vars false W args.toList ds gs before) (hL : laidMetH Tryd.prog Rows.objecttreeBitsRow.laid W) :
    Calls Tryd.prog 5 args W fun e W' => ∃ v, e = .returned v ∧ Rows.objecttreeBitsSpec.post enc Tryd.prog Tryd.f5 false true false false W args v W' := by
  have hW' := hW
  obtain ⟨p, q, hA0, hV, rfl, hfz, hnd⟩ := hW
  have hA : DataW.TrodAll enc Tryd.prog W 0 (fun _ => true) true Tryd.f5.params.toList args.toList ds p := hA0
  rw [Tryd.params5] at hA hval
  obtain ⟨v0, vs0, d0, ds0, p0, q0, hargs, rfl, rfl, h0, r0⟩ := trodAll_cons hA
  obtain ⟨v1, vs1, d1, ds1, p1, q1, rfl, rfl, rfl, h1, r1⟩ := trodAll_cons r0
  obtain ⟨v2, vs2, d2, ds2, p2, q2, rfl, rfl, rfl, h2, r2⟩ := trodAll_cons r1
  obtain ⟨rfl, rfl, rfl⟩ := trodAll_nil r2
  obtain rfl : args = #[v0, v1, v2] := by cases args; simp_all
  obtain ⟨rfl, rfl⟩ := trodVars_none hV
  have k0 := h0
  have lt0 : ∀ x ∈ p0, x.block < W.heap.size := by obtain ⟨m, hm⟩ := k0; exact DataW.trod_lt m _ _ _ hm
  obtain ⟨s0, rfl, -, -, z0⟩ := Go.ChangeMaps.open_string Tryd.underlying9 (hval 0 9 v0 rfl rfl) h0
  have k1 := h1
  have lt1 : ∀ x ∈ p1, x.block < W.heap.size := by obtain ⟨m, hm⟩ := k1; exact DataW.trod_lt m _ _ _ hm
  obtain ⟨s1, rfl, -, -, z1⟩ := Go.ChangeMaps.open_string Tryd.underlying9 (hval 1 9 v1 rfl rfl) h1
  have k2 := h2
  have lt2 : ∀ x ∈ p2, x.block < W.heap.size := by obtain ⟨m, hm⟩ := k2; exact DataW.trod_lt m _ _ _ hm
  obtain ⟨n2, rfl, -, -, z2⟩ := open_int Tryd.underlying3 (hval 2 3 v2 rfl rfl) h2
  clear hA0
  refine (walk W (kst_of_tab (table hL)) z0 z1 n2 (bounds_i64 z2)).mono fun e W' ⟨he, bel⟩ => ?_
  subst he
  exact ⟨_, rfl, _, _, _, [], _, [], hW', trodAll_mk1 (shut_bool Tryd.underlying4 _), (trodAll_cons_mk (Below.trod laidOut (by kernel_rfl) (of_decide_eq_true (by kernel_rfl)) k0 bel lt0) (trodAll_cons_mk (Below.trod laidOut (by kernel_rfl) (of_decide_eq_true (by kernel_rfl)) k1 bel lt1) (trodAll_cons_mk (Below.trod laidOut (by kernel_rfl) (of_decide_eq_true (by kernel_rfl)) k2 bel lt2) trodAll_mk0))), rfl, bel.frame _, fun h => by cases h⟩
theorem laid_met (os : Os) : laidMet Tryd.prog Rows.objecttreeBitsRow.laid ((laidWorld os).forCall (fun _ _ => 0) ⟨#[], #[.string ByteArray.empty, .string ByteArray.empty, .int .i64 0], []⟩).memory :=
  laidMet_of_run' 8 (by kernel_rfl) (by kernel_rfl)
theorem reads (os : Os) {H : Type} (enc : TypeId × Value → H) : ∃ places, DataW.whole enc Tryd.prog ((laidWorld os).forCall (fun _ _ => 0) ⟨#[], #[.string ByteArray.empty, .string ByteArray.empty, .int .i64 0], []⟩).memory Tryd.f5.params.toList Rows.objecttreeBitsSpec.vars false #[Value.string ByteArray.empty, .string ByteArray.empty, .int .i64 0].toList 8 = some ([.lit (.string []), .lit (.string []), .lit (.int .i64 0)], [], places) :=
  ⟨[], by kernel_rfl⟩
set_option maxRecDepth 100000 in
theorem lifted (os : Os) (started : os.Started) (H : Type) (enc : TypeId × Value → H) (F : Stop.Interp) :
    ReturnsInHanded {} Tryd.checked os 5 .any ((OpenSpec.ofChange Rows.objecttreeBitsSpec).preRow enc Tryd.prog Tryd.f5 Rows.objecttreeBitsRow.domain false Rows.objecttreeBitsRow.laid) (((OpenSpec.ofChange Rows.objecttreeBitsSpec).at F).post enc Tryd.prog Tryd.f5 false true false false) := by
  obtain ⟨places, hx⟩ := reads os enc
  refine returnsInHanded_of_row (C := Tryd.checked) (s := OpenSpec.ofChange Rows.objecttreeBitsSpec) own started (by kernel_rfl) Tryd.func5
    (witness_row_at (enc := enc) (C := Tryd.checked) false (laidWorld os) #[.string ByteArray.empty, .string ByteArray.empty, .int .i64 0] rfl (by kernel_rfl) (by kernel_rfl) (by kernel_rfl)
      (OpenSpec.preRow_of_cond 8 hx (by kernel_rfl) (fun k hk => by cases hk) (by kernel_rfl) (laid_met os))) ?_
  intro W base args ds gs before hval hW _ _ _ hL _ _
  exact contract H enc W base args ds gs before hval hW hL
theorem said : Rows.ObjecttreeBitsSaid :=
  OpenClaim.holds_of_cond 5 Tryd.f5 rfl rfl rfl rfl rfl rfl rfl ⟨rfl, rfl, rfl, rfl, rfl⟩ rfl rfl rfl rfl rfl (by kernel_rfl) Tryd.func5 (by kernel_rfl)
    (of_decide_eq_true (by kernel_rfl)) (by unfold Func.isWrapper; first | (rw [if_pos (by decide +kernel)]; kernel_rfl) | (rw [if_neg (by decide +kernel)]; exact ⟨rfl, rfl⟩))
    (fun os started H enc _ F => by rw [OpenClaim.pre_eq_preRow]; exact lifted os started H enc F)
theorem plain (f : FuncId) (fn : Func) (hf : Tryd.pinned.checked.prog.funcNamed "plexus/plexuslaw40.ObjecttreeBits" = some f) (hfn : Tryd.pinned.checked.prog.funcs[f]? = some fn) :
    false = Tryd.pinned.checked.prog.looks [] ∧ ∀ (j : Nat) t, fn.params[j]? = some t → Tryd.pinned.checked.prog.wantsStandIn t = false := by
  obtain rfl : f = 5 := Option.some.inj ((show Tryd.prog.funcNamed "plexus/plexuslaw40.ObjecttreeBits" = some 5 by kernel_rfl).symm.trans hf) |>.symm
  obtain rfl : fn = Tryd.f5 := (Option.some.inj (Tryd.func5.symm.trans hfn)).symm
  refine ⟨by kernel_rfl, fun j t ht => ?_⟩
  rw [Tryd.params5] at ht
  have hm : t = 9 ∨ t = 9 ∨ t = 3 := by simpa using Array.mem_of_getElem? ht
  rcases hm with rfl | rfl | rfl
  · exact (show Tryd.prog.wantsStandIn 9 = false by kernel_rfl)
  · exact (show Tryd.prog.wantsStandIn 9 = false by kernel_rfl)
  · exact (show Tryd.prog.wantsStandIn 3 = false by kernel_rfl)
/-- The card. -/
theorem card : Rows.ObjecttreeBitsCardSaid :=
  Claim7.holds_tied_plain_at .later [] _ _ _ _ said (fun _ h => by cases h) (by kernel_rfl) (fun _ h => by cases h) objecttreeBits_row_tie rfl ⟨rfl, rfl⟩ (by kernel_rfl) rfl plain (by kernel_rfl)
#print axioms card
end Go.Proofs.YthoaenpbmmjokaaDoor.objecttreeBits

/-
  Verify, the program's and the reference's; the reference's Sign.
-/
import Derived.Test.YtlofgcglnpjceaaDoorSign
namespace Go.Proofs.YtlofgcglnpjceaaDoor
open Go.RowKit Go.Pl
theorem beq_dec (a b : List UInt8) : (a == b) = decide (b = a) := by
  by_cases h : a = b
  · simp [h]
  · rw [decide_eq_false (fun e => h e.symm)]; simpa using h
theorem beq_dec' (a b : List UInt8) : (a == b) = decide (a = b) := by
  by_cases h : a = b <;> simp [h]
set_option maxRecDepth 100000 in
theorem equal_any {A1 A2 : Option Addr} {n1 c1 n2 c2 : Nat} {a b : List UInt8} (w : World) (h1 : Rd w (fun _ => True) A1 n1 c1 a) (h2 : Rd w (fun _ => True) A2 n2 c2 b) :
    Calls Tryd.prog 34 #[.slice A1 n1 c1, .slice A2 n2 c2] w fun e w' => e = .returned (.bool (decide (a = b))) ∧ w' = w := by
  have b1 := h1.all
  have b2 := h2.all
  clear h1 h2
  go_enter Tryd.func34, Tryd.ntmps34
  go_wp2_with (first
    | ((with_reducible refine wpl_string_bytes _ rfl 22 9 5 (.tmp 5) rfl ?_ ?_ ?_ w.heap.size _ ?_ _ b1 ?_); rfl; rfl; rfl; rfl)
    | ((with_reducible refine wpl_string_bytes _ rfl 22 9 5 (.tmp 7) rfl ?_ ?_ ?_ w.heap.size _ ?_ _ b2 ?_); rfl; rfl; rfl; rfl))
  go_ret
  refine ⟨?_, rfl⟩
  show Ending.returned (Value.bool (a == b)) = _
  rw [beq_dec']
set_option maxRecDepth 100000 in
set_option maxHeartbeats 1000000 in
theorem verify_any {w : World} {G S : Nat} {k : List UInt8} {p z : Int} (hK : Kst w) (d : Dev w G S k p z) {A : Option Addr} {n' c' : Nat} {m : List UInt8} (hm : Rd w (fun _ => True) A n' c' m) {A2 : Option Addr} {n2 c2 : Nat} {t : List UInt8} (ht : Rd w (fun _ => True) A2 n2 c2 t)
    (hlk : k.length ≤ 1000000) (hlm : m.length ≤ 1000000) (q x : Int) (hq : I64 q) (hx : I64 x) :
    Calls Tryd.prog 22 #[.pointer (some ⟨G, 0, none⟩), .int .i64 q, .int .i64 x, .slice A n' c', .slice A2 n2 c2] w fun e w' => e = .returned (.bool (decide (t = Keyed.tag (Keyed.key k q x) m))) ∧ Below w.heap.size w w' := by
  obtain ⟨n, c, hb, hr, hne, hs⟩ := d
  have hc : w.cell? ⟨G, 0, none⟩ = some (.slice (some ⟨S, 0, none⟩) n c) := hb.cell 0
  have hm' : Rd w (fun i => i < w.heap.size) A n' c' m := hm.mono (fun i hi _ => hi)
  have ht' : Rd w (fun i => i < w.heap.size) A2 n2 c2 t := ht.mono (fun i hi _ => hi)
  have hr' := hr.mono (T := fun _ => True) (fun _ _ _ => trivial)
  have hKey := Keyed.length_tag k (Keyed.keyIn q x)
  clear hm ht hr hb
  go_enter Tryd.func22, Tryd.ntmps22
  go_wp2_with fail
  refine (derive_any _ hK hr' hlk q x hq hx).mono ?_
  rintro e w1 ⟨g1, n1, cp1, hn1, rfl, hg1, hd1, hb1⟩
  have hr1 := hd1.rd.mono (T := fun _ => True) (fun _ _ _ => trivial)
  rw [← hn1] at hr1
  have hm1 := (hm'.ab hb1).mono (T := fun _ => True) (fun _ _ _ => trivial)
  have hK1 := hK.below hb1 hK.pos
  obtain ⟨Q, hQ⟩ : ∃ Q, Keyed.key k q x = Q := ⟨_, rfl⟩
  have hQl : Q.length ≤ 1000000 := by rw [← hQ]; unfold Keyed.key; omega
  rw [hQ] at hr1
  have hQ' := Lib.hid hQ
  clear hn1 hd1 hKey hQ hr' hc
  go_wp2_with fail
  refine (tag_any _ hK1 hr1 hm1 hQl hlm).mono ?_
  rintro e w2 ⟨g2, n3, c3, hn3, rfl, hg2, hd2, hb2⟩
  have hb02 := hb1.trans (hb2.mono hb1.size)
  have hr2 := hd2.rd.mono (T := fun _ => True) (fun _ _ _ => trivial)
  rw [← hn3] at hr2
  have ht2 := (ht'.ab hb02).mono (T := fun _ => True) (fun _ _ _ => trivial)
  clear hn3 hg2 hr1 hm1 hd2
  go_wp2_with fail
  refine (equal_any _ ht2 hr2).mono ?_
  rintro e w3 ⟨rfl, rfl⟩
  go_wp2_with fail
  go_ret
  rw [hQ'.out]
  exact ⟨rfl, hb02⟩
set_option maxRecDepth 100000 in
set_option maxHeartbeats 1000000 in
theorem refsign_any {w : World} {A0 : Option Addr} {n0 c0 : Nat} {k : List UInt8} (hk : Rd w (fun _ => True) A0 n0 c0 k) {A : Option Addr} {n' c' : Nat} {m : List UInt8} (hm : Rd w (fun _ => True) A n' c' m)
    (hlk : k.length ≤ 1000000) (hlm : m.length ≤ 1000000) (q x : Int) (hq : I64 q) (hx : I64 x) :
    Calls Tryd.prog 21 #[.slice A0 n0 c0, .int .i64 q, .int .i64 x, .slice A n' c'] w fun e w' => Digged w (Keyed.tag (Keyed.key k q x) m) e w' := by
  have hm' : Rd w (fun i => i < w.heap.size) A n' c' m := hm.mono (fun i hi _ => hi)
  have hKey := Keyed.length_tag k (Keyed.keyIn q x)
  clear hm
  go_enter Tryd.func21, Tryd.ntmps21
  go_wp2_with fail
  refine (refderive_any _ hk hlk q x hq hx).mono ?_
  rintro e w1 ⟨g1, n1, cp1, hn1, rfl, hg1, hd1, hb1⟩
  have hr1 := hd1.rd.mono (T := fun _ => True) (fun _ _ _ => trivial)
  rw [← hn1] at hr1
  have hm1 := (hm'.ab hb1).mono (T := fun _ => True) (fun _ _ _ => trivial)
  obtain ⟨Q, hQ⟩ : ∃ Q, Keyed.key k q x = Q := ⟨_, rfl⟩
  have hQl : Q.length ≤ 1000000 := by rw [← hQ]; unfold Keyed.key; omega
  rw [hQ] at hr1
  have hQ' := Lib.hid hQ
  clear hn1 hd1 hKey hQ
  go_wp2_with fail
  refine (reftag_any _ hr1 hm1 hQl hlm).mono ?_
  rintro e w2 ⟨g2, n3, c3, hn3, rfl, hg2, hd2, hb2⟩
  have hb02 := hb1.trans (hb2.mono hb1.size)
  have hn3' := Lib.hid hn3
  have hg2' := Lib.hid (Nat.le_trans hb1.size hg2)
  clear hn3 hg2
  go_wp2_with fail
  go_ret
  rw [hQ'.out]
  exact ⟨g2, n3, c3, hn3'.out, rfl, hg2'.out, hd2, hb02⟩
set_option maxRecDepth 100000 in
set_option maxHeartbeats 1000000 in
theorem refverify_any {w : World} {A0 : Option Addr} {n0 c0 : Nat} {k : List UInt8} (hk : Rd w (fun _ => True) A0 n0 c0 k) {A : Option Addr} {n' c' : Nat} {m : List UInt8} (hm : Rd w (fun _ => True) A n' c' m) {A2 : Option Addr} {n2 c2 : Nat} {t : List UInt8} (ht : Rd w (fun _ => True) A2 n2 c2 t)
    (hlk : k.length ≤ 1000000) (hlm : m.length ≤ 1000000) (q x : Int) (hq : I64 q) (hx : I64 x) :
    Calls Tryd.prog 23 #[.slice A0 n0 c0, .int .i64 q, .int .i64 x, .slice A n' c', .slice A2 n2 c2] w fun e w' => e = .returned (.bool (decide (t = Keyed.tag (Keyed.key k q x) m))) ∧ Below w.heap.size w w' := by
  have h0 := ab_drew w
  have hkd := hk.ab h0
  have hmd := hm.ab h0
  have htd : ∀ w', Ab w.drew w' → Bytes w' w'.heap.size (.slice A2 n2 c2) t := fun w' h => (ht.ab (Ab.trans _ _ _ h0 h)).all
  clear hk hm ht
  go_enter Tryd.func23, Tryd.ntmps23
  go_wp2_with fail
  refine wp_region_plan Ab Ab.refl Ab.trans [([0, 1, 2, 3, 6, 7], 4)] [5, 8, 9] (by kernel_rfl) (by kernel_rfl) (fun _ _ _ _ _ h => h) ?_
  simp only [wpPlan, ordPick, Option.toList_some, List.cons_append, List.nil_append, List.getElem?_cons_succ, List.getElem?_cons_zero]
  iterate 5 (go_big_quiet_step (exact fun _ => rfl))
  refine wpq_string rfl 22 9 5 (.tmp 17) rfl rfl rfl rfl _ _ _ rfl t htd ?_
  simp only [Act.put, List.setIfInBounds_toArray, List.set_cons_succ, List.set_cons_zero]
  refine wpQuiet_nil ?_
  go_wp2_with fail
  refine (refsign_any hkd hmd hlk hlm q x hq hx).mono ?_
  rintro e w1 ⟨g1, n1, cp1, hn1, rfl, hg1, hd1, hb1⟩
  have hr1 := hd1.rd.mono (T := fun _ => True) (fun _ _ _ => trivial)
  rw [← hn1] at hr1
  have hb01 : Below w.heap.size w w1 := Below.trans h0 hb1
  obtain ⟨T, hT⟩ : ∃ T, Keyed.tag (Keyed.key k q x) m = T := ⟨_, rfl⟩
  rw [hT] at hr1
  have hT' := Lib.hid hT
  have hr1' : ∀ w', Ab w1 w' → Bytes w' w'.heap.size (.slice (some ⟨g1, 0, none⟩) n1 cp1) T := fun w' h => (hr1.ab h).all
  clear hn1 hd1 hT htd hkd hmd hr1
  go_wp2_with fail
  refine And.intro hb1 ?_
  dsimp only
  refine wpq_string rfl 22 9 5 (.tmp 15) rfl rfl rfl rfl _ _ _ rfl T hr1' ?_
  simp only [Act.put, List.setIfInBounds_toArray, List.set_cons_succ, List.set_cons_zero]
  iterate 2 (go_big_quiet_step (exact fun _ => rfl))
  refine wpQuiet_nil ?_
  go_wp2_with fail
  go_ret
  rw [hT'.out]
  refine ⟨?_, hb01⟩
  show Ending.returned (Value.bool (T == t)) = _
  rw [beq_dec]
end Go.Proofs.YtlofgcglnpjceaaDoor

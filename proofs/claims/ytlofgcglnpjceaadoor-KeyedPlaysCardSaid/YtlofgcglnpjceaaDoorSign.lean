/-
  Sign and Verify, the program's and the reference's.
-/
import Derived.Test.YtlofgcglnpjceaaDoorDev
namespace Go.Proofs.YtlofgcglnpjceaaDoor
open Go.RowKit Go.Pl
/-- A tag and no error. -/
def Signed (w : World) (bs : List UInt8) (e : Ending) (w' : World) : Prop :=
  ∃ g n c, n = bs.length ∧ e = .returned (.tuple #[.slice (some ⟨g, 0, none⟩) n c, .int .i64 0]) ∧ w.heap.size ≤ g ∧ Dig w' g 5 c bs ∧ Below w.heap.size w w'
set_option maxRecDepth 100000 in
theorem sign_neg {w : World} {G : Nat} (v : Value) (x : Int) (hx : x < 0) :
    Calls Tryd.prog 20 #[.pointer (some ⟨G, 0, none⟩), .int .i64 x, v] w fun e w' => e = .returned (.tuple #[.slice none 0 0, .int .i64 1]) ∧ w' = w := by
  go_enter Tryd.func20, Tryd.ntmps20
  go_wp2_with fail
  go_ret2
  exact ⟨rfl, rfl⟩
set_option maxRecDepth 100000 in
theorem sign_stale {w : World} {G S : Nat} {k : List UInt8} {p z : Int} (d : Dev w G S k p z) (v : Value) (x : Int) (hx : 0 ≤ x) (hz : x < z) :
    Calls Tryd.prog 20 #[.pointer (some ⟨G, 0, none⟩), .int .i64 x, v] w fun e w' => e = .returned (.tuple #[.slice none 0 0, .int .i64 11]) ∧ w' = w := by
  obtain ⟨n, c, hb, hr, hne, hs⟩ := d
  have hc : w.cell? ⟨G, 2, none⟩ = some (.int .i64 z) := hb.cell 2
  have hx' : ¬ x < 0 := by omega
  go_enter Tryd.func20, Tryd.ntmps20
  go_wp2_with fail
  go_ret2
  exact ⟨rfl, rfl⟩
set_option maxRecDepth 100000 in
set_option maxHeartbeats 1000000 in
theorem sign_any {w : World} {G S : Nat} {k : List UInt8} {p z : Int} (hK : Kst w) (d : Dev w G S k p z) {A : Option Addr} {n' c' : Nat} {m : List UInt8} (hm : Rd w (fun _ => True) A n' c' m) (hlk : k.length ≤ 1000000) (hlm : m.length ≤ 1000000) (hp : I64 p) (x : Int) (hx : 0 ≤ x) (hxx : I64 x) (hz : z ≤ x) :
    Calls Tryd.prog 20 #[.pointer (some ⟨G, 0, none⟩), .int .i64 x, .slice A n' c'] w fun e w' => Signed w (Keyed.tag (Keyed.key k p x) m) e w' := by
  obtain ⟨n, c, hb, hr, hne, hs⟩ := d
  have hc : w.cell? ⟨G, 2, none⟩ = some (.int .i64 z) := hb.cell 2
  have hx' : ¬ x < 0 := by omega
  have hz' : ¬ x < z := by omega
  have hm' : Rd w (fun i => i < w.heap.size) A n' c' m := hm.mono (fun i hi _ => hi)
  have h0 : Below w.heap.size w w.drew := (Fr.refl (fun _ => False) w).drew.below (fun _ h => h.elim) (Nat.le_refl _)
  have hKd := hK.below h0 hK.pos
  have hrd := (hr.fr (Fr.of_below (F := fun _ => False) h0) (fun _ _ h => h)).mono (T := fun _ => True) (fun _ _ _ => trivial)
  have c0 : ∀ w', Ab w.drew w' → w'.cell? ⟨G, 0, none⟩ = some (.slice (some ⟨S, 0, none⟩) n c) := fun w' h => (Below.cell h hb.lt).trans (hb.cell 0)
  have c1 : ∀ w', Ab w.drew w' → w'.cell? ⟨G, 1, none⟩ = some (.int .i64 p) := fun w' h => (Below.cell h hb.lt).trans (hb.cell 1)
  have hKey := Keyed.length_tag k (Keyed.keyIn p x)
  clear hm hr hb
  go_enter Tryd.func20, Tryd.ntmps20
  go_wp2_with fail
  refine wp_region_plan Ab Ab.refl Ab.trans [([0, 1, 2, 3, 4, 5, 6, 7, 8, 10], 9), ([], 11)] [12, 13] (by kernel_rfl) (by kernel_rfl) (fun _ _ _ _ _ h => h) ?_
  simp only [wpPlan, ordPick, Option.toList_some, List.cons_append, List.nil_append, List.getElem?_cons_succ, List.getElem?_cons_zero]
  iterate 3 (go_big_quiet_step (exact fun _ => rfl))
  refine wpq_load_one rfl 22 (.tmp 18) rfl ⟨G, 0, none⟩ rfl _ c0 _ rfl rfl ?_
  simp only [Act.put, List.setIfInBounds_toArray, List.set_cons_succ, List.set_cons_zero]
  iterate 3 (go_big_quiet_step (exact fun _ => rfl))
  refine wpq_load_one rfl 3 (.tmp 22) rfl ⟨G, 1, none⟩ rfl _ c1 _ rfl rfl ?_
  simp only [Act.put, List.setIfInBounds_toArray, List.set_cons_succ, List.set_cons_zero]
  iterate 2 (go_big_quiet_step (exact fun _ => rfl))
  refine wpQuiet_nil ?_
  go_wp2_with fail
  refine (derive_any _ hKd hrd hlk p x hp hxx).mono ?_
  rintro e w1 ⟨g1, n1, cp1, hn1, rfl, hg1, hd1, hb1⟩
  have hr1 := hd1.rd.mono (T := fun _ => True) (fun _ _ _ => trivial)
  rw [← hn1] at hr1
  have hb01 := h0.trans hb1
  have hm1 := (hm'.keep (w' := w1) hb01.size (fun q hq _ => hb01.cell hq)).mono (T := fun _ => True) (fun _ _ _ => trivial)
  have hK1 := hKd.below hb1 hKd.pos
  obtain ⟨Q, hQ⟩ : ∃ Q, Keyed.key k p x = Q := ⟨_, rfl⟩
  have hQl : Q.length ≤ 1000000 := by rw [← hQ]; unfold Keyed.key; omega
  rw [hQ] at hr1
  have hQ' := Lib.hid hQ
  clear hn1 hd1 hKey hQ hrd c0 c1
  go_wp2_with fail
  refine And.intro hb1 (wpQuiet_nil ?_)
  go_wp2_with fail
  refine (tag_any _ hK1 hr1 hm1 hQl hlm).mono ?_
  rintro e w2 ⟨g2, n2, c2, hn2, rfl, hg2, hd2, hb2⟩
  have hb02 := hb01.trans (hb2.mono hb01.size)
  have hn2' := Lib.hid hn2
  have hg2' := Lib.hid (Nat.le_trans hb01.size hg2)
  clear hn2 hg2 hr1 hm1
  go_wp2_with fail
  refine And.intro hb2 ?_
  dsimp only
  iterate 2 (go_big_quiet_step (exact fun _ => rfl))
  refine wpQuiet_nil ?_
  go_wp2_with fail
  go_ret2
  rw [hQ'.out]
  exact ⟨g2, n2, c2, hn2'.out, rfl, hg2'.out, hd2, hb02⟩
end Go.Proofs.YtlofgcglnpjceaaDoor

/-
  A state's clone.
-/
import Derived.Test.YtacbbfmjjfbpoaaDoorSum
import Derived.Test.YtacbbfmjjfbpoaaDoorOrdS
namespace Go.Proofs.YtacbbfmjjfbpoaaDoor
open Go.RowKit Go.Pl
/-- A new state to which m has been written. -/
def Cloned (w : World) (m : List UInt8) (e : Ending) (w' : World) : Prop := ∃ p r, e = .returned (.pointer (some ⟨p, 0, none⟩)) ∧ StateAt w' w.heap.size p m r ∧ Below w.heap.size w w'
set_option maxRecDepth 100000 in
set_option maxHeartbeats 4000000 in
theorem clone_any {B p : Nat} {m : List UInt8} {r : Option Nat} (w : World) (hS : StateAt w B p m r) :
    Calls Tryd.prog 18 #[.pointer (some ⟨p, 0, none⟩)] w fun e w' => Cloned w m e w' := by
  obtain ⟨hBp, v, hr, hblk, hown⟩ := hS
  have hLm : (Sha.rest m).length < 64 := by rw [Sha.length_rest]; omega
  obtain ⟨q, hq⟩ : ∃ q, Sha.rest m = q := ⟨_, rfl⟩
  obtain ⟨u, hu⟩ : ∃ u, Sha.words m = u := ⟨_, rfl⟩
  rw [hq] at hown hLm
  rw [hu] at hblk
  obtain ⟨R, cr, rfl, hrd, -⟩ := own_slice hown
  have hcl : ∀ w' e, (∃ p r, e = Ending.returned (.pointer (some ⟨p, 0, none⟩)) ∧ (w.heap.size ≤ p ∧ ∃ v, r = v.ownBlock ∧ Blk w' p 49 (sta u v m.length) ∧ w'.ownsRow w.heap.size 5 1 v q.length (q.map u8v)) ∧ Below w.heap.size w w') → Cloned w m e w' := by
    rintro w' e ⟨p, r, h1, ⟨h2, v, h3, h4, h5⟩, h6⟩
    exact ⟨p, r, h1, ⟨h2, v, h3, by rw [hu]; exact h4, by rw [hq]; exact h5⟩, h6⟩
  clear hq hu hr
  have hpw : p < w.heap.size := hblk.lt
  have c8 : ∀ w', Blk w' p 49 (sta u (.slice R q.length cr) m.length) → w'.cell? ⟨p, 8, none⟩ = some (.slice R q.length cr) := fun w' h => (h.cell 8).trans rfl
  have c9 : ∀ w', Blk w' p 49 (sta u (.slice R q.length cr) m.length) → w'.cell? ⟨p, 9, none⟩ = some (.int .i64 (m.length : Int)) := fun w' h => (h.cell 9).trans rfl
  go_enter Tryd.func18, Tryd.ntmps18
  go_wp2_with fail
  refine wp_region_ordS (fun w' => Blk w' p 49 (sta u (.slice R q.length cr) m.length)) [0, 1, 2, 3, 5, 6, 7, 8, 10, 11, 12, 13] [4, 9, 14, 15, 16] (by kernel_rfl) (by kernel_rfl) (fun _ _ _ _ _ h => h) hblk.drew ?_
  simp only [ordPick, Option.toList_some, List.cons_append, List.nil_append, List.getElem?_cons_succ, List.getElem?_cons_zero]
  iterate 3 (go_big_quiet_step (exact fun _ => rfl))
  refine wpq_load_part rfl 46 (.tmp 5) rfl p 0 rfl 49 _ (fun _ h => h) (st u) rfl _ rfl rfl (by kernel_rfl) ?_
  simp only [Act.put, List.setIfInBounds_toArray, List.set_cons_succ, List.set_cons_zero]
  iterate 3 (go_big_quiet_step (exact fun _ => rfl))
  refine wpq_load_one rfl 22 (.tmp 10) rfl ⟨p, 8, none⟩ rfl _ c8 _ rfl rfl ?_
  simp only [Act.put, List.setIfInBounds_toArray, List.set_cons_succ, List.set_cons_zero]
  iterate 3 (go_big_quiet_step (exact fun _ => rfl))
  refine wpq_load_one rfl 3 (.tmp 15) rfl ⟨p, 9, none⟩ rfl _ c9 _ rfl rfl ?_
  simp only [Act.put, List.setIfInBounds_toArray, List.set_cons_succ, List.set_cons_zero]
  refine wpQuiet_nil ?_
  unfold wpTail
  intro K hK
  go_wp2_with fail
  refine hK _ _ (hblk.alloc _).drew ?_
  clear hK K
  have o1 : (w.alloc (.cells #[] 5)).drew.ownsRow w.heap.size 5 1 (.slice (some ⟨w.heap.size, 0, none⟩) 0 0) 0 ([].map u8v) := own_alloc w (Nat.le_refl _) 5 [] #[] rfl rfl (by decide)
  have f1 : Fr (fun _ => False) w (w.alloc (.cells #[] 5)).drew := ((Fr.refl (fun _ => False) w).alloc _).drew
  have b1 : Bytes (w.alloc (.cells #[] 5)).drew (w.alloc (.cells #[] 5)).drew.heap.size (.slice R q.length cr) q := (hrd.fr f1 (fun _ _ h => h)).all
  unfold wpTail
  intro K hK
  refine op_append_sl _ (.tmp 7) (.tmp 11) 22 rfl w.heap.size 5 rfl (by kernel_rfl) _ rfl [] o1 _ _ rfl q b1 (by simp; omega) f1.size q.length rfl ?_
  intro A2 c2 w2 ho2 hg2 hb2
  simp only [Act.put, List.setIfInBounds_toArray, List.set_cons_succ, List.set_cons_zero]
  have hne : some p ≠ (Value.slice (some ⟨w.heap.size, 0, none⟩) 0 0).ownBlock := fun e => by
    have : p = w.heap.size := Option.some.inj e
    omega
  have blk2 := (hblk.alloc (.cells #[] 5)).drew.grown hg2 hne
  have f2 : Fr (fun _ => False) w w2 := f1.grown hg2 (fun g h => .inr (by have : w.heap.size = g := Option.some.inj h; omega))
  refine hK _ _ blk2 ?_
  clear hK K
  unfold wpTail
  intro K hK
  refine op_value _ (.agg (sta u (.slice A2 q.length c2) m.length)) (by kernel_rfl) ?_
  simp only [Act.put, List.setIfInBounds_toArray, List.set_cons_succ, List.set_cons_zero]
  refine hK _ _ blk2 ?_
  clear hK K
  unfold wpTail
  intro K hK
  go_wp2_with fail
  refine hK _ _ (blk2.alloc _) ?_
  clear hK K
  unfold wpTail
  intro K hK
  go_wp2_with fail
  refine hK _ _ (blk2.alloc _) ?_
  unfold wpTail
  go_wp2_with fail
  go_ret
  exact hcl _ _ ⟨_, _, rfl, ⟨f2.size, .slice A2 q.length c2, rfl, Blk.new' rfl, own_new ho2 _⟩, (f2.alloc _).below (fun _ h => h.elim) (Nat.le_refl _)⟩
end Go.Proofs.YtacbbfmjjfbpoaaDoor

/-
  New states.
-/
import Derived.Test.YtajohibeoicepaaDoorSt
namespace Go.Proofs.YtajohibeoicepaaDoor
open Go.RowKit Go.Pl
theorem initial_any (w : World) :
    Calls Tryd.prog 61 #[] w fun e w' => e = .returned (.agg (st Sha.init)) ∧ Below w.heap.size w w' := by
  go_enter Tryd.func61, Tryd.ntmps61
  go_wp2_with (first
    | ((with_reducible refine wpl_build _ rfl 83 _ rfl (.agg (st Sha.init)) ?_ ?_); kernel_rfl)
    | ((with_reducible refine wpl_store_new _ rfl 83 (.tmp 0) (.tmp 1) rfl w.heap.size ?_ (st Sha.init) ?_ 83 _ (Blk.new' rfl) ?_ ?_ (st_one _) ?_); rfl; rfl; kernel_rfl; rfl; intro w1 hk hg))
  exact bodyPost_ret (results_cell_row (P := Tryd.prog) Tryd.results61 _ _ w.heap.size 83 (st Sha.init) (0, 0) _ rfl hk Tryd.underlying83 rfl (by kernel_rfl)) rfl ⟨rfl, ((Below.refl _ _).alloc (Nat.le_refl _) _).grown hg (by simp) (by intro k hk; cases hk; exact Nat.le_refl _)⟩
/-- A new state behind the world w. -/
def Made (w : World) (e : Ending) (w' : World) : Prop := ∃ p, e = .returned (.pointer (some ⟨p, 0, none⟩)) ∧ StateAt w' w.heap.size p [] none ∧ Below w.heap.size w w'
theorem new_any (w : World) : Calls Tryd.prog 50 #[] w fun e w' => Made w e w' := by
  go_enter Tryd.func50, Tryd.ntmps50
  go_wp2_with (first
    | (go_at_call 61; refine (initial_any _).mono ?_; rintro e w1 ⟨rfl, h1⟩)
    | ((with_reducible refine wpl_build _ rfl 86 _ rfl (.agg (sta Sha.init (.slice none 0 0) 0)) ?_ ?_); kernel_rfl))
  go_returns
  exact ⟨_, rfl, ⟨h1.size, .slice none 0 0, rfl, Blk.new' rfl, ⟨rfl, .inl ⟨rfl, rfl⟩⟩⟩, h1.alloc h1.size _⟩
end Go.Proofs.YtajohibeoicepaaDoor

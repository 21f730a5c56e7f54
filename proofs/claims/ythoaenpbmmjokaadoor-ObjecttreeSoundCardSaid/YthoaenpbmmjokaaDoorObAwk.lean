/-
  The chapter's examples.
-/
import Derived.Test.YthoaenpbmmjokaaDoorObChk
import Derived.Test.YthoaenpbmmjokaaDoorObSplit
import Derived.Test.YthoaenpbmmjokaaDoorObBit
import Derived.Lib.SlBytesConst
namespace Go.Proofs.YthoaenpbmmjokaaDoor
open Go.RowKit Go.Pl
/-- A row laid by a conversion. -/
theorem rd_lit (w : World) (xs : List UInt8) (cs : Array Value) (f : Nat × Nat) (hcs : cs = (xs.map u8v).toArray) (hm : xs.length ≤ maxLen) :
    Rd (w.alloc (.cells cs 5 f)) (fun _ => True) (some ⟨w.heap.size, 0, none⟩) xs.length xs.length xs := by
  subst hcs
  refine ⟨rfl, Nat.le_refl _, hm, (fun e => by cases e), fun _ => ⟨w.heap.size, 0, rfl, trivial, by simp, fun i hi => ?_⟩⟩
  rw [Nat.zero_add, cell_of_row _ w.heap.size i _ 5 f (heap_alloc_new w _)]
  simp [hi, u8v]
/-- A row laid by a literal. -/
theorem rd_row (w : World) (xs : List UInt8) (cs : Array Value) (hcs : cs = (xs.map u8v).toArray) (hm : xs.length ≤ maxLen) :
    Rd (w.alloc (.cells cs 5)) (fun _ => True) (some ⟨w.heap.size, 0, none⟩) xs.length xs.length xs := rd_lit w xs cs (0, 0) hcs hm
/-- One item laid by a literal. -/
theorem rdi_one (w : World) (x : Ob.It) (s p : Value) (hs : SlIs (w.alloc (.cells (itv x s p).toArray 26)) (fun _ => True) s x.content) (hp : PathIs (w.alloc (.cells (itv x s p).toArray 26)) (fun _ => True) p x.path) :
    RdI (w.alloc (.cells (itv x s p).toArray 26)) (fun _ => True) (some ⟨w.heap.size, 0, none⟩) 1 1 [x] :=
  ⟨itv x s p, (Row.new w _ _ _ rfl rfl (by decide)).mono (fun _ _ _ => trivial), s, p, [], by simp, hs, hp, rfl⟩
theorem ismap_one (x : Ob.It) (hp : x.present = true) (h : x.path = []) (hk : x.key.length ≤ 65536) : Ob.IsMap [x] := by
  intro i hi
  obtain rfl : i = 0 := by simpa using hi
  exact ⟨x, rfl, hp, h, hk, fun y h _ => by omega⟩
theorem fr_mark {G : Nat} (w : World) (o o' : Obj) (hG : w.heap.size = G) : Fr (fun i => i = G) (w.alloc o) (w.alloc o') := by
  subst hG
  have h1 := (Below.refl w.heap.size w).alloc (Nat.le_refl _) o
  have h2 := (Below.refl w.heap.size w).alloc (Nat.le_refl _) o'
  have s1 : (w.alloc o).heap.size = w.heap.size + 1 := Array.size_push _
  have s2 : (w.alloc o').heap.size = w.heap.size + 1 := Array.size_push _
  exact ⟨h2.os.trans h1.os.symm, h2.tape.trans h1.tape.symm, h2.output.trans h1.output.symm, by omega, fun k hk hn => (h2.block k (by omega)).trans (h1.block k (by omega)).symm⟩
theorem fr_tr' (F : Nat → Prop) : ∀ a b c, Fr F a b → Fr F b c → Fr F a c := fun _ _ _ h1 h2 => h1.trans h2 (fun _ h => .inl h)
theorem leaf32 (k c : List UInt8) : (Ob.leafH k c).length = 32 := Sha.length_sha _
set_option maxRecDepth 100000 in
set_option maxHeartbeats 4000000 in
theorem awake_any (w : World) (hK : Kst w) : Calls Tryd.prog 11 #[] w fun e w' => e = .returned (.bool true) ∧ Below w.heap.size w w' := by
  have kc := fun (w : World) (C : Array Value) (n c : Nat) => Lib.run_convert_bytes_const (P := Tryd.prog) w 23 5 C n c rfl rfl
  go_enter Tryd.func11, Tryd.ntmps11
  go_wp2_with fail
  have hX := rd_lit w [120] #[.int .u8 120] (1, 2) rfl (by decide)
  have hb1 : Below w.heap.size w (w.alloc (.cells #[.int .u8 120] 5 (1, 2))) := (Below.refl _ _).alloc (Nat.le_refl _) _
  have hs1 : (w.alloc (.cells #[.int .u8 120] 5 (1, 2))).heap.size = w.heap.size + 1 := Array.size_push _
  rw [← hs1]
  generalize w.alloc (.cells #[.int .u8 120] 5 (1, 2)) = w1 at hX hb1 hs1 ⊢
  have hI := rdi_one w1 ⟨[97], true, [120], []⟩ (.slice (some ⟨w.heap.size, 0, none⟩) 1 1) (.slice none 0 0) ⟨_, _, _, rfl, hX.fr ((Fr.refl (fun _ => False) _).alloc _) (fun _ _ h => h)⟩ ⟨_, _, _, rfl, RdS.nil _ _⟩
  have hb2 := hb1.alloc hb1.size (.cells #[.string ⟨#[97]⟩, .bool true, .slice (some ⟨w.heap.size, 0, none⟩) 1 1, .slice none 0 0] 26)
  refine (root_map _ (hK.below hb2 hK.pos) hI (by omega) (by simp) (ismap_one _ rfl rfl (by simp))).mono ?_
  rintro e w3 ⟨A3, n3, c3, rfl, hr3, hb3⟩
  rw [Ob.rootH_one] at hr3
  have hn3 := hr3.len
  rw [leaf32] at hn3
  subst hn3
  have hr3d := Lib.hid hr3
  have hb3d : Hid (Below w.heap.size w w3) := hb2.trans (hb3.mono hb2.size)
  clear hr3 hb3 hI hX hb1 hs1 hb2
  go_wp2_with fail
  refine wp_region_plan (Fr (fun i => i = w3.heap.size)) (Fr.refl _) (fr_tr' _) [([0, 1, 2, 3, 4, 5], 6), ([7, 8, 9], 10), ([], 11), ([], 12), ([13, 14], 15), ([16], 17), ([18], 19), ([20], 21), ([22], 23)] [24] (by kernel_rfl) (by kernel_rfl) (fun _ _ _ _ _ h => h) ?_
  simp only [wpPlan, ordPick, Option.toList_some, List.cons_append, List.nil_append, List.getElem?_cons_succ, List.getElem?_cons_zero]
  have hr4 : Hid (Rd w3.drew (fun i => ¬ i = w3.heap.size) A3 32 c3 (Ob.leafH [97] [120])) := (hr3d.out.ab (ab_drew w3)).mono (fun i h _ => by have h : i < w3.heap.size := h; omega)
  have hb4 : Hid (Below w.heap.size w w3.drew) := hb3d.out.trans ((ab_drew w3).mono hb3d.out.size)
  have hs4 : Hid (w3.drew.heap.size = w3.heap.size) := rfl
  clear hr3d hb3d
  generalize w3.heap.size = G at hr4 hs4 ⊢
  generalize w3.drew = w4 at hr4 hb4 hs4 ⊢
  iterate 6 (go_big_quiet_step (exact fun _ => rfl))
  refine wpQuiet_nil ?_
  go_wp2_with fail
  refine And.intro (Fr.refl _ _) ?_
  simp only
  iterate 2 (go_big_quiet_step (exact fun _ => rfl))
  refine wpq_string rfl 23 9 5 (.tmp 19) rfl Tryd.underlying23 Tryd.underlying5 Tryd.underlying9 A3 32 c3 rfl (Ob.leafH [97] [120]) (fun w' h => (hr4.out.fr h (fun _ h => h)).bytes (fun i hi _ => hi)) ?_
  simp only [Act.put, List.setIfInBounds_toArray, List.set_cons_succ, List.set_cons_zero]
  refine wpQuiet_nil ?_
  go_wp2_with fail
  refine And.intro ((Fr.refl _ _).alloc _) ?_
  simp only
  refine wpQuiet_nil ?_
  go_wp2_with fail
  refine And.intro (fr_mark w4 _ _ hs4.out) ?_
  simp only
  refine wpQuiet_nil ?_
  have hX := rd_lit w4 [120] #[.int .u8 120] (1, 2) rfl (by decide)
  have hb5 := hb4.out.alloc hb4.out.size (.cells #[.int .u8 120] 5 (1, 2))
  have hs5 : Hid (w4.heap.size < (w4.alloc (.cells #[.int .u8 120] 5 (1, 2))).heap.size) := by show _ < _; simp
  have hX5 := Lib.hid hX
  have hb5d := Lib.hid hb5
  clear hX hb5
  generalize w4.alloc (.cells #[.int .u8 120] 5 (1, 2)) = w5 at hs5 hX5 hb5d ⊢
  go_wp2_with fail
  refine (refleaf_any w5 [97] (by simp) hX5.out (by simp)).mono ?_
  rintro e w6 ⟨A6, n6, c6, rfl, hr6, hb6⟩
  have hn6 := hr6.len
  rw [leaf32] at hn6
  subst hn6
  have hr6d := Lib.hid hr6
  have hb6d : Hid (Below w.heap.size w w6) := hb5d.out.trans (hb6.mono hb5d.out.size)
  have hb56 := Lib.hid hb6
  clear hr6 hb6
  go_wp2_with fail
  refine And.intro (Fr.of_below hb56.out) ?_
  simp only
  refine wpq_string rfl 23 9 5 (.tmp 23) rfl Tryd.underlying23 Tryd.underlying5 Tryd.underlying9 A6 32 c6 rfl (Ob.leafH [97] [120]) (fun w' h => ((hr6d.out.mono (T := fun i => ¬ i = G) (fun i _ h => by have := hs5.out; have := hs4.out; omega)).fr h (fun _ h => h)).bytes (fun i hi _ => hi)) ?_
  simp only [Act.put, List.setIfInBounds_toArray, List.set_cons_succ, List.set_cons_zero]
  iterate 1 (go_big_quiet_step (exact fun _ => rfl))
  refine wpQuiet_nil ?_
  go_wp2_with fail
  refine And.intro (Fr.refl _ _) ?_
  simp only
  iterate 1 (go_big_quiet_step (exact fun _ => rfl))
  refine wpQuiet_nil ?_
  go_wp2_with fail
  refine (split_any w6 [97] [99] (by simp) (by simp)).mono ?_
  rintro e w7 ⟨rfl, hb7⟩
  rw [show Ob.split [97] [99] = 7 by decide +kernel]
  have hb7d : Hid (Below w.heap.size w w7) := hb6d.out.trans (hb7.mono hb6d.out.size)
  have hb67 : Hid (Below w6.heap.size w6 w7) := hb7
  clear hb7
  go_wp2_with fail
  refine And.intro (Fr.of_below hb67.out) ?_
  simp only
  iterate 1 (go_big_quiet_step (exact fun _ => rfl))
  refine wpQuiet_nil ?_
  go_wp2_with fail
  refine And.intro (Fr.refl _ _) ?_
  simp only
  iterate 1 (go_big_quiet_step (exact fun _ => rfl))
  refine wpQuiet_nil ?_
  go_wp2_with fail
  refine (bit_any w7 [97] 0 (by simp) (by omega)).mono ?_
  rintro e w8 ⟨rfl, rfl⟩
  rw [show Ob.bitN [97] 0 = 1 by decide +kernel]
  go_wp2_with fail
  refine And.intro (Fr.refl _ _) ?_
  simp only
  iterate 1 (go_big_quiet_step (exact fun _ => rfl))
  refine wpQuiet_nil ?_
  go_wp2_with fail
  refine And.intro (Fr.refl _ _) ?_
  simp only
  iterate 1 (go_big_quiet_step (exact fun _ => rfl))
  refine wpQuiet_nil ?_
  go_wp2_with fail
  go_ret
  exact ⟨rfl, hb7d.out⟩
end Go.Proofs.YthoaenpbmmjokaaDoor

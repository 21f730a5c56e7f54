/-
  The device: New, Process, Height, Raise.
-/
import Derived.Test.YtlofgcglnpjceaaDoorDerive
import Derived.Test.YtlofgcglnpjceaaDoorOrdR
import Derived.Test.YtlofgcglnpjceaaDoorOrdS
import Derived.Test.YtlofgcglnpjceaaDoorOwn
namespace Go.Proofs.YtlofgcglnpjceaaDoor
open Go.RowKit Go.Pl
/-- A module at G, its secret in block S. -/
def Dev (w : World) (G S : Nat) (k : List UInt8) (p h : Int) : Prop :=
  ∃ n c, Blk w G 58 #[.slice (some ⟨S, 0, none⟩) n c, .int .i64 p, .int .i64 h] ∧ Rd w (fun i => i = S) (some ⟨S, 0, none⟩) n c k ∧ S ≠ G ∧ S < w.heap.size
theorem Dev.fr {F : Nat → Prop} {w w' : World} {G S : Nat} {k : List UInt8} {p h : Int} (d : Dev w G S k p h) (hf : Fr F w w') (h1 : ¬ F G) (h2 : ¬ F S) : Dev w' G S k p h := by
  obtain ⟨n, c, hb, hr, hne, hs⟩ := d
  exact ⟨n, c, hb.fr hf h1, hr.fr hf (fun i hi => hi ▸ h2), hne, Nat.lt_of_lt_of_le hs hf.size⟩
theorem Dev.up {w w' : World} {G S : Nat} {k : List UInt8} {p h : Int} (d : Dev w G S k p h) (hb : Below w.heap.size w w') : Dev w' G S k p h :=
  d.fr (F := fun _ => False) (Fr.of_below hb) (fun h => h) (fun h => h)
theorem Dev.lt {w : World} {G S : Nat} {k : List UInt8} {p h : Int} (d : Dev w G S k p h) : G < w.heap.size ∧ S < w.heap.size := by
  obtain ⟨n, c, hb, hr, hne, hs⟩ := d
  exact ⟨hb.lt, hs⟩
theorem own_blk {w : World} {base g : Nat} {e : TypeId} {n : Nat} {xs : List Value} (h : w.ownsRow base e 1 (.slice (some ⟨g, 0, none⟩) n n) n xs) : Blk w g e xs.toArray := by
  obtain ⟨hl, h⟩ := h
  rcases h with ⟨he, h0⟩ | ⟨g', cap, cur, he, hb, hg, hnc, hcm, hcs, ht⟩
  · cases he
  · cases he
    have e1 : cur = xs.toArray := by
      apply Array.ext'
      rw [← ht, List.take_of_length_le (by simp [hcs])]
    exact e1 ▸ hg
theorem rd_blk {w : World} {g : Nat} {e : TypeId} {bs : List UInt8} (h : Blk w g e (bs.map u8v).toArray) (hl : bs.length ≤ 1000000) : Rd w (fun i => i = g) (some ⟨g, 0, none⟩) bs.length bs.length bs := by
  refine ⟨rfl, Nat.le_refl _, by simp only [maxLen]; omega, (fun e => by cases e), fun _ => ⟨g, 0, rfl, rfl, h.lt, fun i hi => ?_⟩⟩
  rw [h.cell (0 + i), Nat.zero_add]
  simp [hi, u8v]
set_option maxRecDepth 100000 in
theorem knew_any {A : Option Addr} {n c : Nat} {k : List UInt8} (w : World) (hA : Rd w (fun _ => True) A n c k) (hlk : k.length ≤ 1000000) (p : Int) :
    Calls Tryd.prog 16 #[.slice A n c, .int .i64 p] w fun e w' => ∃ G, e = .returned (.pointer (some ⟨G, 0, none⟩)) ∧ w.heap.size < G ∧ Dev w' G w.heap.size k p 0 ∧ Below w.heap.size w w' := by
  obtain rfl := hA.len
  have hA' := Lib.hid (hA.mono (T := fun i => i < w.heap.size) (fun i hi _ => hi))
  have hlc : Hid (k.length ≤ ((List.replicate k.length (Value.int .u8 0)).toArray).size) := by show _ ≤ _; simp
  have hcp : Hid ((k.map u8v ++ (List.replicate k.length (Value.int .u8 0)).drop k.length).toArray = (k.map u8v).toArray) := by show _ = _; rw [List.drop_of_length_le (by simp), List.append_nil]
  have hmk : Hid (k.length * 1 ≤ 281474976710656) := by show _ ≤ _; omega
  clear hA
  go_enter Tryd.func16, Tryd.ntmps16
  go_wp2_with (first
    | ((with_reducible refine wpl_make rfl 22 (.tmp 7) (.tmp 7) rfl w.heap.size 5 (.int .u8 0) 1 ?_ ?_ rfl (by decide) .i64 .i64 k.length ?_ ?_ hmk.out (Nat.le_refl _) ?_); rfl; kernel_rfl; rfl; rfl; intro w1 ho1 hg1;
        have hb1 := (Below.refl w.heap.size w).grown hg1 (Nat.le_refl _) (fun k hk => by cases hk);
        have hS1 := own_blk ho1;
        have hlt1 := hS1.lt;
        have hS := hS1.alloc (.cells #[.slice (some ⟨w.heap.size, 0, none⟩) k.length k.length, .int .i64 p, .int .i64 0] 58);
        have hG := Blk.new w1 58 #[.slice (some ⟨w.heap.size, 0, none⟩) k.length k.length, .int .i64 p, .int .i64 0];
        have hb2 := hb1.alloc hb1.size (.cells #[.slice (some ⟨w.heap.size, 0, none⟩) k.length k.length, .int .i64 p, .int .i64 0] 58);
        have hr2 := hA'.out.keep hb2.size (fun q hq _ => hb2.cell hq);
        clear ho1 hg1 hS1)
    | ((with_reducible refine wpl_build _ rfl 58 _ rfl (.agg #[.slice (some ⟨w.heap.size, 0, none⟩) k.length k.length, .int .i64 p, .int .i64 0]) ?_ ?_); kernel_rfl)
    | ((with_reducible refine wpl_copy_rd rfl (.tmp 15) (.tmp 16) 22 22 rfl 5 ?_ ?_ w.heap.size k.length k.length ?_ 5 _ hS _ _ _ _ k hr2 ?_ (Nat.le_refl _) ?_ ?_); rfl; kernel_rfl; rfl; rfl; exact hlc.out; intro w3 hb3 hg3;
        have hne : w.heap.size ≠ w1.heap.size := Nat.ne_of_lt hlt1;
        have hG3 := hG.grown hg3 (fun e => hne (Option.some.inj e).symm);
        have hbel3 := hb2.grown hg3 hb2.size (fun k hk => by cases hk; exact Nat.le_refl _);
        have hS3 : Blk w3 w.heap.size 5 (k.map u8v).toArray := hcp.out ▸ hb3;
        clear hb3 hg3 hG hS hr2 hb2))
  go_ret
  refine ⟨w1.heap.size, rfl, hlt1, ⟨_, _, hG3, rd_blk hS3 hlk, hne, hS3.lt⟩, hbel3⟩
set_option maxRecDepth 100000 in
theorem process_any {w : World} {G S : Nat} {k : List UInt8} {p h : Int} (d : Dev w G S k p h) :
    Calls Tryd.prog 17 #[.pointer (some ⟨G, 0, none⟩)] w fun e w' => e = .returned (.int .i64 p) ∧ w' = w := by
  obtain ⟨n, c, hb, hr, hne, hs⟩ := d
  have hc : w.cell? ⟨G, 1, none⟩ = some (.int .i64 p) := hb.cell 1
  clear hb hr
  go_enter Tryd.func17, Tryd.ntmps17
  go_wp2_with fail
  go_ret
  exact ⟨rfl, rfl⟩
set_option maxRecDepth 100000 in
theorem height_any {w : World} {G S : Nat} {k : List UInt8} {p h : Int} (d : Dev w G S k p h) :
    Calls Tryd.prog 18 #[.pointer (some ⟨G, 0, none⟩)] w fun e w' => e = .returned (.int .i64 h) ∧ w' = w := by
  obtain ⟨n, c, hb, hr, hne, hs⟩ := d
  have hc : w.cell? ⟨G, 2, none⟩ = some (.int .i64 h) := hb.cell 2
  clear hb hr
  go_enter Tryd.func18, Tryd.ntmps18
  go_wp2_with fail
  go_ret
  exact ⟨rfl, rfl⟩
set_option maxRecDepth 100000 in
theorem raise_any {w : World} {G S : Nat} {k : List UInt8} {p z : Int} (d : Dev w G S k p z) (x : Int) :
    Calls Tryd.prog 19 #[.pointer (some ⟨G, 0, none⟩), .int .i64 x] w fun e w' => e = .returned undef ∧ Dev w' G S k p (max z x) ∧ Fr (fun i => i = G) w w' := by
  obtain ⟨n, c, hb, hr, hne, hs⟩ := d
  have hc : w.cell? ⟨G, 2, none⟩ = some (.int .i64 z) := hb.cell 2
  have hfz := hb.frozen 2
  by_cases hx : z < x
  · have hmx : max z x = x := by omega
    rw [hmx]
    go_enter Tryd.func19, Tryd.ntmps19
    go_wp2_with fail
    go_returns
    exact ⟨rfl, ⟨n, c, hb.set_ 2 (.int .i64 x), hr.fr ((Fr.refl (fun i => i = G) w).setCell (.inl rfl) _) (fun i hi e => hne (hi.symm.trans e)), hne, by simpa using hs⟩, (Fr.refl (fun i => i = G) w).setCell (.inl rfl) _⟩
  · have hmx : max z x = z := by omega
    rw [hmx]
    go_enter Tryd.func19, Tryd.ntmps19
    go_wp2_with fail
    go_returns
    exact ⟨rfl, ⟨n, c, hb.set_ 2 (.int .i64 z), hr.fr ((Fr.refl (fun i => i = G) w).setCell (.inl rfl) _) (fun i hi e => hne (hi.symm.trans e)), hne, by simpa using hs⟩, (Fr.refl (fun i => i = G) w).setCell (.inl rfl) _⟩
end Go.Proofs.YtlofgcglnpjceaaDoor

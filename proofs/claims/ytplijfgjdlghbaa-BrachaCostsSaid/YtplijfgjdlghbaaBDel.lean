/-
  What has been delivered.
-/
import Derived.Test.YtplijfgjdlghbaaBKey
namespace Go.Proofs.Ytplijfgjdlghbaa
open Go.RowKit Go.Pl
section
variable {P : Program} {ops : Array Oper} {rest : List Oper} {o : Oper} {a : Act} {Q : Exit → Act → World → Prop} {w : World}
theorem wpl_load_del (hgd : o.guard = none) (ty : TypeId) (x : Operand) (hop : o.op = .load ty x) (g k : Nat) (hx : a.eval x = .pointer (some ⟨g, k, none⟩)) (v0 v1 v2 : Value) (hr : w.rangeAt g k [v0, v1, v2])
    (d : TypeDesc) (hu : P.underlying ty = some d) (hd : d.isRow = true) (hi : (P.info? ty).map (·.size) = some 3)
    (h : wpList P ops Q rest (a.put o.dst (.agg #[v0, v1, v2])) w) : wpList P ops Q (o :: rest) a w :=
  wpList_load_mid hgd ty x hop g k hx [v0, v1, v2] d hr hu hd (by simpa using hi) (by simpa using h)
theorem wpl_load_pkt (hgd : o.guard = none) (ty : TypeId) (x : Operand) (hop : o.op = .load ty x) (g k : Nat) (hx : a.eval x = .pointer (some ⟨g, k, none⟩)) (v0 v1 v2 v3 v4 v5 : Value) (hr : w.rangeAt g k [v0, v1, v2, v3, v4, v5])
    (d : TypeDesc) (hu : P.underlying ty = some d) (hd : d.isRow = true) (hi : (P.info? ty).map (·.size) = some 6)
    (h : wpList P ops Q rest (a.put o.dst (.agg #[v0, v1, v2, v3, v4, v5])) w) : wpList P ops Q (o :: rest) a w :=
  wpList_load_mid hgd ty x hop g k hx [v0, v1, v2, v3, v4, v5] d hr hu hd (by simpa using hi) (by simpa using h)
end
theorem rangeAt_up {w w' : World} {b k : Nat} {vs : List Value} (h : w.rangeAt b k vs) (hk : ∀ i, w'.cell? ⟨b, i, none⟩ = w.cell? ⟨b, i, none⟩) : w'.rangeAt b k vs := fun j v hj => (hk _).trans (h j v hj)
set_option maxRecDepth 100000 in
set_option maxHeartbeats 2000000 in
theorem delivered_any {w : World} {L : Nat → Lab} {G : Nat} {p : Bra.Proc} (hp : ProcAt w L G p) :
    Calls Try.prog 18 #[.pointer (some ⟨G, 0, none⟩)] w fun e w' => ∃ A n c, e = .returned (.slice A n c) ∧ RdE w' (fun i => w.heap.size ≤ i) A n c p.done ∧ Below w.heap.size w w' := by
  obtain ⟨M, Ad, nd, cd, lm, vs, hin⟩ := hp.in_
  have gd : w.cell? ⟨G, 5, none⟩ = some (.slice Ad nd cd) := (hin.blk.cell 5).trans rfl
  have hrd : Hid (RdE w (fun i => i < w.heap.size) Ad nd cd p.done) := ⟨vs, (own_row hin.row).mono (fun i hi _ => hi), hin.des.mono (fun i hi _ => hi)⟩
  have hnd : Hid (nd = p.done.length) := hin.ndLen
  have hfew : nd ≤ 1000000 := by have h1 := hin.few; rw [hnd.out]; exact h1
  have hfit := Lib.hid hin.fits
  clear hin hp
  go_enter Try.func18, Try.ntmps18
  go_wp2_with fail
  clear gd
  go_loopw [3, 11] (fun t3 t11 wr => ∃ (i : Nat) (A' : Option Addr) (c' : Nat) (us : List Value) (T : Nat → Prop), i ≤ nd ∧ t11 = .int .i64 i ∧ t3 = .slice A' i c' ∧ wr.ownsRow w.heap.size 56 3 (.slice A' i c') i us ∧
      DesIs wr T (p.done.take i) us ∧ (∀ g, T g → w.heap.size ≤ g ∧ g < wr.heap.size ∧ (Value.slice A' i c').ownBlock ≠ some g) ∧ Below w.heap.size w wr) (fun _ t11 _ => nd - (intOf t11).toNat)
  case atStart => exact ⟨0, none, 0, [], fun _ => False, by omega, rfl, rfl, ⟨rfl, .inl ⟨rfl, rfl⟩⟩, by simp [DesIs], fun _ h => h.elim, Below.refl _ _⟩
  case round =>
    obtain ⟨i, A', c', us, T, hi, rfl, rfl, hown, hde, hT, hb⟩ := hrel
    have hde' := Lib.hid hde
    have hT' := Lib.hid hT
    have hown' := Lib.hid hown
    by_cases hlt : i < nd
    · have hltI : (i : Int) < (nd : Int) := by omega
      have hil : i < p.done.length := by rw [← hnd.out]; exact hlt
      obtain ⟨b, off, s, rfl, hbs, -, hs, hrg⟩ := hrd.out.get (List.getElem?_eq_getElem hil)
      obtain ⟨d, hd⟩ : ∃ d, p.done[i] = d := ⟨_, rfl⟩
      have hfd : Hid (Fits d.payload) := by show Fits _; rw [← hd]; exact hfit.out _ (List.getElem_mem hil)
      have htk : Hid (p.done.take (i + 1) = p.done.take i ++ [d]) := by show _ = _; rw [List.take_succ_eq_append_getElem hil, hd]
      rw [hd] at hs hrg
      obtain ⟨Aq, nq, cq, rfl, hrq⟩ := hs
      have hrg2 : wr.rangeAt b (off + i * 3) [.int .i64 d.origin, .int .i64 d.number, .slice Aq nq cq] := rangeAt_up hrg (fun j => hb.cell (p := ⟨b, j, none⟩) hbs)
      have hb1 : Below w.heap.size w (wr.alloc (.cells #[.int .i64 d.origin, .int .i64 d.number, .slice Aq nq cq] 56)) := hb.alloc hb.size _
      have hrq1 := Lib.hid (hrq.fr (Fr.of_below (F := fun i => w.heap.size ≤ i) hb1) (fun i h => by omega))
      have hbz : Hid (w.heap.size ≤ wr.heap.size) := hb.size
      have hbd := Lib.hid hb
      have hb1d := Lib.hid hb1
      clear hrg hd hrq hde hT hown hb hb1 hil
      go_wp2_with ((with_reducible refine wpl_load_del rfl 56 (.tmp 13) rfl b (off + i * 3) ?_ _ _ _ hrg2 _ Try.underlying56 rfl ?_ ?_); rfl; kernel_rfl)
      refine (clone_any hrq1.out hfd.out).mono ?_
      rintro e w2 ⟨v, rfl, hv, hb2⟩
      obtain ⟨A3, n3, c3, rfl, hr3⟩ := hv
      have hD2 : Blk w2 wr.heap.size 56 #[.int .i64 d.origin, .int .i64 d.number, .slice Aq nq cq] := (Blk.new' rfl).below hb2 (by rw [size_alloc1]; omega)
      have hdc : w2.cell? ⟨wr.heap.size, 2, none⟩ = some (.slice Aq nq cq) := (hD2.cell 2).trans rfl
      have fz := hD2.frozen 2
      have hs12 : Hid (wr.heap.size + 1 ≤ w2.heap.size) := by have := hb2.size; rw [size_alloc1] at this; exact this
      have hr3' : Hid (Rd w2 (fun g => wr.heap.size + 1 ≤ g ∧ g < w2.heap.size) A3 n3 c3 d.payload) := hr3.mono (fun i hi h => ⟨by rw [size_alloc1] at h; exact h, hi⟩)
      have hbb2 : Hid (Below w.heap.size w w2) := hb1d.out.trans (hb2.mono hb1d.out.size)
      have f2 : Fr (fun i => i = wr.heap.size) wr w2 := ((Fr.refl _ wr).alloc _).trans (Fr.of_below (F := fun _ => False) hb2) (fun _ h => h.elim)
      obtain ⟨w3, hw3⟩ : ∃ w3, w2.setCell ⟨wr.heap.size, 2, none⟩ (.slice A3 n3 c3) = w3 := ⟨_, rfl⟩
      have f3 : Fr (fun i => i = wr.heap.size) w2 (w2.setCell ⟨wr.heap.size, 2, none⟩ (.slice A3 n3 c3)) := (Fr.refl (fun i => i = wr.heap.size) w2).setCell (p := ⟨wr.heap.size, 2, none⟩) (.inl rfl) _
      have hD3 := hD2.set_ 2 (.slice A3 n3 c3)
      have hs3 := size_setCell w2 ⟨wr.heap.size, 2, none⟩ (.slice A3 n3 c3)
      go_upto_region 6 with fail
      rw [hw3] at f3 hD3 hs3
      have hs3' := Lib.hid hs3
      have f13 := f2.trans f3 (fun _ h => .inl h)
      have own3 := own_fr hown'.out f13 (fun g e h => by have := (own_lt hown'.out g e).2; omega)
      have o4 := own_alc own3 (.cells #[.int .i64 d.origin, .int .i64 d.number, .slice A3 n3 c3] 56)
      have r4 := Row.new (n := 1) (sz := 3) w3 56 #[.int .i64 d.origin, .int .i64 d.number, .slice A3 n3 c3] _ rfl rfl (by decide)
      have hbb3 : Hid (Below w.heap.size w w3) := hbb2.out.trans (f3.below (fun i e => by rw [e]; exact hbz.out) (Nat.le_trans hbz.out (by have := hs12.out; omega)))
      have hr33 : Hid (Rd w3 (fun g => wr.heap.size + 1 ≤ g ∧ g < w2.heap.size) A3 n3 c3 d.payload) := hr3'.out.fr f3 (fun i h e => by omega)
      have hde3 : Hid (DesIs w3 T (p.done.take i) us) := hde'.out.fr f13 (fun g h e => by have := (hT'.out g h).2.1; omega)
      have hle4 : w.heap.size ≤ (w3.alloc (.cells #[.int .i64 d.origin, .int .i64 d.number, .slice A3 n3 c3] 56)).heap.size := by rw [size_alloc1]; have := hbb3.out.size; omega
      clear f2 f3 f13 own3 hw3 hs3 hD2 hdc fz hr3 hb2
      go_wp2_with (first
        | ((with_reducible refine wpl_load_part rfl 56 (.tmp 5) rfl wr.heap.size 0 ?_ 56 _ hD3 #[.int .i64 d.origin, .int .i64 d.number, .slice A3 n3 c3] rfl _ Try.underlying56 rfl (by kernel_rfl) ?_); rfl)
        | (at_builtin; refine wpl_app rfl (.tmp 19) (.tmp 21) 30 rfl w.heap.size 56 _ 3 40 Try.underlying30 infoDel rfl (by decide) (by decide) _ rfl i us o4 _ _ 1 1 rfl _ r4 (by intro u hu; simp only [List.mem_cons, List.not_mem_nil, or_false] at hu; rcases hu with rfl | rfl | rfl <;> rfl) (by omega) hle4 (i + 1) rfl ?_; intro A5 c5 w5 ho5 hg5 hz5))
      have f5 : Fr (fun g => (Value.slice A' i c').ownBlock = some g) w3 w5 := ((Fr.refl (fun g => (Value.slice A' i c').ownBlock = some g) w3).alloc (.cells #[.int .i64 d.origin, .int .i64 d.number, .slice A3 n3 c3] 56)).grown hg5 (fun g h => .inl h)
      have hown2 := own_lt hown'.out
      go_roundw
      case rel =>
        have z1 := hs12.out
        have z3 := hs3'.out
        have z5 := f5.size
        have zz := hbz.out
        have hd5 : ∀ g, (T g ∨ (wr.heap.size + 1 ≤ g ∧ g < w2.heap.size)) → ¬ (Value.slice A' i c').ownBlock = some g := fun g hg e => by
          rcases hg with hg | hg
          · exact (hT'.out g hg).2.2 e
          · have := (hown2 g e).2; omega
        refine ⟨i + 1, A5, c5, _, fun g => T g ∨ (wr.heap.size + 1 ≤ g ∧ g < w2.heap.size), by omega, by go_num, rfl, ho5, ?_, fun g hg => ⟨?_, ?_, fun e => ?_⟩, hbb3.out.trans (f5.below (fun g e => (hown2 g e).1) hbb3.out.size)⟩
        · rw [htk.out]
          refine DesIs.snoc (m := d) (s := .slice A3 n3 c3) ⟨A3, n3, c3, rfl, (hr33.out.mono (fun g _ h => .inr h)).fr f5 hd5⟩ ((hde3.out.mono (fun g _ h => .inl h)).fr f5 hd5)
        · rcases hg with hg | hg
          · exact (hT'.out g hg).1
          · omega
        · rcases hg with hg | hg
          · have := (hT'.out g hg).2.1; omega
          · omega
        · rcases hz5 with h | h
          · rw [h] at e; exact hd5 g hg e
          · rw [h] at e
            have e' : w3.heap.size + 1 = g := by simpa using e
            rcases hg with hg | hg
            · have := (hT'.out g hg).2.1; omega
            · omega
      case measure => simp [intOf]; omega
    · have hltI : ¬ (i : Int) < (nd : Int) := by omega
      have hin : Hid (i = nd) := by show _ = _; omega
      clear hde hT hown
      go_wp2_with fail
      go_ret
      refine ⟨A', i, c', rfl, ⟨us, (own_row hown'.out).mono (fun g _ h => (own_lt hown'.out g h).1), ?_⟩, hb⟩
      have := hde'.out
      rw [hin.out, hnd.out, List.take_of_length_le (Nat.le_refl _)] at this
      exact this.mono (fun g _ h => (hT'.out g h).1)
end Go.Proofs.Ytplijfgjdlghbaa

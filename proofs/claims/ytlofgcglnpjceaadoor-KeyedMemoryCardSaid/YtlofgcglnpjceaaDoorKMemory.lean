/-
  A module does not change when the slices are changed that were passed or returned.
-/
import Derived.Test.YtlofgcglnpjceaaDoorHead
import Derived.Test.YtlofgcglnpjceaaDoorShort
import Derived.Test.YtlofgcglnpjceaaDoorArg
import Derived.Test.YtlofgcglnpjceaaDoorOwn
namespace Go.Pl
open Go.RowKit
/-- Bytes that may be written. -/
def Open8 (w : World) (A : Option Addr) (n : Nat) : Prop :=
  ∀ k, k < n → ∃ g, A = some ⟨g, 0, none⟩ ∧ g < w.heap.size ∧ (∀ j, j < n → ∃ y : UInt8, w.cell? ⟨g, j, none⟩ = some (.int .u8 (y.toNat : Int))) ∧ (∀ j, j < n → w.frozen? ⟨g, j, none⟩ = false)
theorem Open8.set {w : World} {g n : Nat} (h : Open8 w (some ⟨g, 0, none⟩) n) (k : Nat) (y : UInt8) : Open8 (w.setCell ⟨g, k, none⟩ (.int .u8 (y.toNat : Int))) (some ⟨g, 0, none⟩) n := by
  intro j hj
  obtain ⟨g', e, hl, hc, hf⟩ := h j hj
  obtain rfl : g = g' := by cases e; rfl
  refine ⟨g, rfl, by simpa using hl, fun i hi => ?_, fun i hi => ?_⟩
  · obtain ⟨z, hz⟩ := hc i hi
    by_cases hik : i = k
    · subst hik
      exact ⟨y, World.cell?_setCell_same w _ _ hz⟩
    · exact ⟨z, (World.cell?_setCell_other w _ _ _ (fun e => hik (congrArg Addr.off e).symm)).trans hz⟩
  · rw [World.frozen?_setCell]; exact hf i hi
theorem Open8.fr {F : Nat → Prop} {w w' : World} {A : Option Addr} {n c : Nat} (h : Open8 w A n) (hf : Fr F w w') (hF : ∀ i, (Value.slice A n c).ownBlock = some i → ¬ F i) : Open8 w' A n := by
  intro j hj
  obtain ⟨g, rfl, hl, hc, hz⟩ := h j hj
  have hg : ¬ F g := hF g rfl
  have hb := hf.block g hl hg
  refine ⟨g, rfl, Nat.lt_of_lt_of_le hl hf.size, fun i hi => ?_, fun i hi => ?_⟩
  · obtain ⟨z, e⟩ := hc i hi
    exact ⟨z, (hf.cell (p := ⟨g, i, none⟩) hl hg).trans e⟩
  · rw [← hz i hi]
    unfold World.frozen?
    rw [hb]
theorem own_open {w : World} {base : Nat} {e : TypeId} {A : Option Addr} {n c : Nat} {bs : List UInt8} (h : w.ownsRow base e 1 (.slice A n c) n (bs.map u8v)) : Open8 w A n := by
  intro k hk
  have hl := own_len h
  have h' := h
  rcases h.2 with ⟨hnil, h0⟩ | ⟨g, cap, cur, heq, hbase, hblk, hnc, hcm, hcs, htk⟩
  · have : n = 0 := by injection hnil
    omega
  · have he1 : A = some ⟨g, 0, none⟩ := by injection heq
    subst he1
    obtain ⟨_, hlt, hc, hz, _⟩ := own_g h'
    refine ⟨g, rfl, hlt, fun j hj => ⟨bs.getD j 0, ?_⟩, fun j _ => hz j⟩
    rw [hc j hj]
    exact u8v_get bs j (by simp at hl; omega)
theorem Dig.open_ {w : World} {g c : Nat} {e : TypeId} {bs : List UInt8} (h : Dig w g e c bs) : Open8 w (some ⟨g, 0, none⟩) bs.length := by
  intro k _
  have hlt := h.lt
  refine ⟨g, rfl, hlt, fun j hj => ⟨_, h.cell hj⟩, fun j hj => ?_⟩
  obtain ⟨cur, hg, hcs, hlc, hm, ht⟩ := h
  unfold World.frozen?
  rw [hg]
  simp
  omega
theorem wrap_u8_succ (b : UInt8) : IntKind.u8.wrap ((b.toNat : Int) + 1) = ((b + 1).toNat : Int) := by
  rw [IntKind.wrap_u8, UInt8.toNat_add]
  simp
end Go.Pl
namespace Go.Proofs.YtlofgcglnpjceaaDoor.keyedMemory
open Go.ChangeShapes Go.WideShapes Go.ChangeAt Go.RowKit Go.Pl
set_option maxRecDepth 100000 in
set_option maxHeartbeats 4000000 in
theorem walk {A1 A2 : Option Addr} {n1 c1 n2 c2 : Nat} {k m : List UInt8} (w : World) (hK : Kst w) (h1 : Rd w (fun _ => True) A1 n1 c1 k) (h2 : Rd w (fun _ => True) A2 n2 c2 m) :
    Calls Tryd.prog 9 #[.slice A1 n1 c1, .slice A2 n2 c2] w fun e w' => e = .returned (.bool true) ∧ Below w.heap.size w w' := by
  have hl1 := Lib.hid h1.len
  have hl2 := Lib.hid h2.len
  have hKp := hK.pos
  have hR1 : Hid (Rd w (fun i => i < w.heap.size) A1 n1 c1 k) := h1.mono (fun i hi _ => hi)
  have hR2 : Hid (Rd w (fun i => i < w.heap.size) A2 n2 c2 m) := h2.mono (fun i hi _ => hi)
  have hinc := wrap_u8_succ
  have hi1 : I64 1 := by unfold I64; omega
  have hi0 : I64 0 := by unfold I64; omega
  clear h1 h2
  go_enter Tryd.func9, Tryd.ntmps9
  go_wp2_with fail
  refine (awake_any _ hK).mono ?_
  rintro e w1 ⟨rfl, hb1⟩
  go_wp2_with fail
  refine (short_any _ _ _ _ _ _ _).mono ?_
  rintro e wq ⟨rfl, rfl⟩
  by_cases hs : n1 ≤ 2000 ∧ n2 ≤ 2000
  · rw [decide_eq_true hs]
    have hk : Hid (k.length ≤ 1000000) := by show _ ≤ _; have := hl1.out; omega
    have hm : Hid (m.length ≤ 1000000) := by show _ ≤ _; have := hl2.out; omega
    have hlo1 : Hid (([] : List UInt8).length + k.length ≤ 140737488355328) := by show _ ≤ _; have := hk.out; simp; omega
    have hlo2 : Hid (([] : List UInt8).length + m.length ≤ 140737488355328) := by show _ ≤ _; have := hm.out; simp; omega
    have hN1 : Hid ((([] : List UInt8) ++ k).length = n1) := by show _ = _; have := hl1.out; simp; omega
    have hN2 : Hid ((([] : List UInt8) ++ m).length = n2) := by show _ = _; have := hl2.out; simp; omega
    obtain ⟨T, hT⟩ : ∃ T, Keyed.tag (Keyed.key k 1 0) m = T := ⟨_, rfl⟩
    have hT' := Lib.hid hT
    have hTl : Hid (T.length = 32) := by show _ = _; rw [← hT]; exact Keyed.length_tag _ _
    have hn1B : n1 ≤ 2000 := hs.1
    have hn2B : n2 ≤ 2000 := hs.2
    have hs1 : Hid (w.heap.size ≤ wq.heap.size) := hb1.size
    clear hs hT
    have o1 := own_alloc wq (Nat.le_refl _) 5 [] #[] rfl rfl (by decide)
    have f1 : Fr (fun _ => False) wq (wq.alloc (.cells #[] 5)) := (Fr.refl (fun _ => False) wq).alloc _
    have a1 := ((hR1.out.ab hb1).fr f1 (fun _ _ h => h)).all
    go_wp2_with (first
      | ((with_reducible refine wpl_append_sl _ rfl (.tmp 24) (.tmp 25) 22 rfl wq.heap.size 5 ?_ ?_ _ ?_ [] o1 _ _ ?_ k a1 hlo1.out f1.size n1 hN1.out ?_); rfl; kernel_rfl; rfl; rfl; intro As cs w2 ho2 hg2 hz2; rw [List.nil_append] at ho2;
          have f2 := f1.grown hg2 (fun g h => .inr (own_base o1 h));
          have hb2 := hb1.trans (f2.below (B := w.heap.size) (fun _ h => h.elim) hb1.size);
          have hw2 := Lib.hid hb2.size;
          have hsF := own_lt ho2;
          have o3 := own_alloc w2 (Nat.le_refl _) 5 [] #[] rfl rfl (by decide);
          have f3 : Fr (fun _ => False) w2 (w2.alloc (.cells #[] 5)) := (Fr.refl (fun _ => False) w2).alloc _;
          have a3 := ((hR2.out.ab hb2).fr f3 (fun _ _ h => h)).all;
          clear hg2 hz2 o1 f1 a1 f2)
      | ((with_reducible refine wpl_append_sl _ rfl (.tmp 27) (.tmp 28) 22 rfl w2.heap.size 5 ?_ ?_ _ ?_ [] o3 _ _ ?_ m a3 hlo2.out f3.size n2 hN2.out ?_); rfl; kernel_rfl; rfl; rfl; intro Ab cb w3 ho3 hg3 hz3; rw [List.nil_append] at ho3;
          have f4 := f3.grown hg3 (fun g h => .inr (own_base o3 h));
          have hb3 := hb2.trans (f4.below (B := w.heap.size) (fun _ h => h.elim) hb2.size);
          have hbF := own_lt ho3;
          have hos3 := own_fr ho2 f4 (fun _ _ h => h);
          have hz23 := Lib.hid f4.size;
          clear hg3 hz3 o3 f3 a3 f4 ho2))
    have hr3 : Rd w3 (fun _ => True) As n1 cs k := (own_rd hos3).mono (fun _ _ _ => trivial)
    refine (knew_any _ hr3 hk.out 1).mono ?_
    rintro e w4 ⟨G, rfl, hG, hD4, hb4'⟩
    have hb4 := hb3.trans (hb4'.mono hb3.size)
    have hlt4 := hD4.lt
    have hos4 := own_upd hos3 hb4'
    have hob4 := own_upd ho3 hb4'
    have hsz4 := hb4'.size
    clear hr3 hb4' hb3 hb2 hos3 ho3 hb1
    go_wp2_with fail
    refine (knew_any _ ((hR1.out.ab hb4).mono (fun _ _ _ => trivial)) hk.out 1).mono ?_
    rintro e w5 ⟨G2, rfl, hG2, hE5, hb5'⟩
    have hb5 := hb4.trans (hb5'.mono hb4.size)
    have hD5 := hD4.up hb5'
    have hos5 := own_open (own_upd hos4 hb5')
    have hob5 := own_upd hob4 hb5'
    have hsz5 : w3.heap.size ≤ w5.heap.size := Nat.le_trans hsz4 hb5'.size
    obtain ⟨S, hS⟩ : ∃ S, w3.heap.size = S := ⟨_, rfl⟩
    obtain ⟨S2, hS2⟩ : ∃ S, w4.heap.size = S := ⟨_, rfl⟩
    have hGG : Hid (w3.heap.size ≤ G ∧ w3.heap.size ≤ G2 ∧ w3.heap.size ≤ S ∧ w3.heap.size ≤ S2 ∧ w2.heap.size ≤ w3.heap.size) := ⟨by omega, by omega, by omega, by omega, hz23.out⟩
    rw [hS] at hD5
    rw [hS2] at hE5
    clear hb5' hos4 hob4 hD4 hlt4 hG hG2 hS2 hb4
    go_wp2_with fail
    go_loopw [9] (fun i wr => ∃ j : Nat, j ≤ n1 ∧ i = .int .i64 (j : Int) ∧ Fr (fun g => (Value.slice As n1 cs).ownBlock = some g) w5 wr ∧ Open8 wr As n1) (fun i _ => n1 - (intOf i).toNat)
    case atStart => exact ⟨0, Nat.zero_le _, rfl, Fr.refl _ _, hos5⟩
    case round =>
      obtain ⟨j, hj, rfl, hfr, hop⟩ := hrel
      by_cases hlt : j < n1
      · have hltI : (j : Int) < (n1 : Int) := by omega
        obtain ⟨g, hA, hgl, hcs, hfs⟩ := hop j hlt
        subst hA
        obtain ⟨y, hy⟩ := hcs j hlt
        have hfz := hfs j hlt
        have hset := Lib.hid (hop.set j (y + 1))
        have hfw := Lib.hid (hfr.setCell (p := ⟨g, j, none⟩) (.inl rfl) (.int .u8 ((y + 1).toNat : Int)))
        clear hcs hfs hop hfr
        go_wp2_with fail
        go_roundw
        case rel => exact ⟨j + 1, hlt, by go_num, hfw.out, hset.out⟩
        case measure => simp [intOf]; omega
      · have hltI : ¬ (j : Int) < (n1 : Int) := by omega
        clear hop
        have hb6 := hb5.trans (hfr.below (B := w.heap.size) (fun i h => by have := hsF i h; have := hs1.out; omega) hb5.size)
        have hD6 := hD5.fr hfr (fun h => by have := hsF _ h; have := hGG.out; omega) (fun h => by have := hsF _ h; have := hGG.out; omega)
        have hE6 := hE5.fr hfr (fun h => by have := hsF _ h; have := hGG.out; omega) (fun h => by have := hsF _ h; have := hGG.out; omega)
        have hob6 := own_fr hob5 hfr (fun i hi h => by have := hsF _ h; have := hbF i hi; omega)
        have hsz6 := hfr.size
        clear hfr hD5 hE5 hob5 hb5
        have hrb6 := (own_rd hob6).mono (T := fun _ => True) (fun _ _ _ => trivial)
        go_wp2_with fail
        refine (sign_any (hK.below hb6 hKp) hD6 hrb6 hk.out hm.out hi1 0 (by omega) hi0 (by omega)).mono ?_
        rw [hT'.out]
        rintro e w7 ⟨g7, n7, c7, hn7, rfl, hg7', hd7, hb7'⟩
        have hl6 := hD6.lt
        have hb7 := hb6.trans (hb7'.mono hb6.size)
        have hG7 : Hid (G < g7 ∧ S < g7 ∧ w3.heap.size ≤ g7 ∧ g7 < w7.heap.size) := ⟨by omega, by omega, by have := hsz5; omega, hd7.lt⟩
        have hg7w : Hid (w.heap.size ≤ g7) := by show _ ≤ _; have := hb6.size; omega
        have hD7 := hD6.up hb7'
        have hE7 := hE6.up hb7'
        have hob7 := own_open (own_fr hob6 (Fr.of_below (F := fun _ => False) hb7') (fun _ _ h => h))
        have ht7 := hd7.rd
        have hto7 := hd7.open_
        rw [← hn7] at ht7 hto7
        have hn7B : n7 ≤ 2000 := by have := hTl.out; omega
        clear hn7 hd7 hb7' hg7' hl6 hD6 hE6 hob6 hrb6 hb6
        go_wp2_with fail
        go_loopw [12] (fun i wr => ∃ j : Nat, j ≤ n2 ∧ i = .int .i64 (j : Int) ∧ Fr (fun g => (Value.slice Ab n2 cb).ownBlock = some g) w7 wr ∧ Open8 wr Ab n2) (fun i _ => n2 - (intOf i).toNat)
        case atStart => exact ⟨0, Nat.zero_le _, rfl, Fr.refl _ _, hob7⟩
        case round =>
          obtain ⟨j, hj, rfl, hfr, hop⟩ := hrel
          by_cases hlt : j < n2
          · have hltI : (j : Int) < (n2 : Int) := by omega
            obtain ⟨g, hA, hgl, hcs, hfs⟩ := hop j hlt
            subst hA
            obtain ⟨y, hy⟩ := hcs j hlt
            have hfz := hfs j hlt
            have hset := Lib.hid (hop.set j (y + 1))
            have hfw := Lib.hid (hfr.setCell (p := ⟨g, j, none⟩) (.inl rfl) (.int .u8 ((y + 1).toNat : Int)))
            clear hcs hfs hop hfr
            go_wp2_with fail
            go_roundw
            case rel => exact ⟨j + 1, hlt, by go_num, hfw.out, hset.out⟩
            case measure => simp [intOf]; omega
          · have hltI : ¬ (j : Int) < (n2 : Int) := by omega
            clear hop
            have hb8 := hb7.trans (hfr.below (B := w.heap.size) (fun i h => by have := hbF i h; have := hw2.out; omega) hb7.size)
            have hD8 := hD7.fr hfr (fun h => by have := hbF _ h; have := hGG.out; omega) (fun h => by have := hbF _ h; have := hGG.out; omega)
            have hE8 := hE7.fr hfr (fun h => by have := hbF _ h; have := hGG.out; omega) (fun h => by have := hbF _ h; have := hGG.out; omega)
            have ht8 := ht7.fr hfr (fun i hi h => by have := hbF _ h; have := hG7.out; have := hGG.out; omega)
            have hto8 := hto7.fr (c := c7) hfr (fun i hi h => by have : g7 = i := Option.some.inj hi; have := hbF _ h; have := hG7.out; have := hGG.out; omega)
            have hsz8 := hfr.size
            clear hfr hD7 hE7 ht7 hto7 hb7 hob7
            go_wp2_with fail
            refine (sign_any (hK.below hb8 hKp) hE8 ((hR2.out.ab hb8).mono (fun _ _ _ => trivial)) hk.out hm.out hi1 0 (by omega) hi0 (by omega)).mono ?_
            rw [hT'.out]
            rintro e w9 ⟨g9, n9, c9, hn9, rfl, hg9', hd9, hb9'⟩
            have hb9 := hb8.trans (hb9'.mono hb8.size)
            have hg9 : Hid (g7 < g9) := by show _ < _; have := hG7.out; omega
            have hD9 := hD8.up hb9'
            have ht9 := ht8.ab hb9'
            have hto9 := hto8.fr (F := fun _ => False) (c := c7) (Fr.of_below hb9') (fun _ _ h => h)
            have hu9 := hd9.rd
            rw [← hn9] at hu9
            have b9t := (ht9.mono (T := fun _ => True) (fun _ _ _ => trivial)).all
            have b9u := (hu9.mono (T := fun _ => True) (fun _ _ _ => trivial)).all
            clear hn9 hd9 hb9' hg9' hD8 hE8 ht8 hto8 hb8
            go_wp2_with (first
              | ((with_reducible refine wpl_string_w 22 9 5 (.tmp 83) rfl ?_ ?_ ?_ ?_ _ ?_ _ b9t ?_); rfl; rfl; rfl; rfl; rfl)
              | ((with_reducible refine wpl_string_w 22 9 5 (.tmp 85) rfl ?_ ?_ ?_ ?_ _ ?_ _ b9u ?_); rfl; rfl; rfl; rfl; rfl))
            clear b9t b9u ht9
            go_loopw [15] (fun i wr => ∃ j : Nat, j ≤ n7 ∧ i = .int .i64 (j : Int) ∧ Fr (fun g => (Value.slice (some ⟨g7, 0, none⟩) n7 c7).ownBlock = some g) w9 wr ∧ Open8 wr (some ⟨g7, 0, none⟩) n7) (fun i _ => n7 - (intOf i).toNat)
            case atStart => exact ⟨0, Nat.zero_le _, rfl, Fr.refl _ _, hto9⟩
            case round =>
              obtain ⟨j, hj, rfl, hfr, hop⟩ := hrel
              by_cases hlt : j < n7
              · have hltI : (j : Int) < (n7 : Int) := by omega
                obtain ⟨g, hA, hgl, hcs, hfs⟩ := hop j hlt
                obtain rfl : g7 = g := by injection hA with h; injection h
                obtain ⟨y, hy⟩ := hcs j hlt
                have hfz := hfs j hlt
                have hset := Lib.hid (hop.set j (y + 1))
                have hfw := Lib.hid (hfr.setCell (p := ⟨g7, j, none⟩) (.inl rfl) (.int .u8 ((y + 1).toNat : Int)))
                clear hcs hfs hop hfr
                go_wp2_with fail
                go_roundw
                case rel => exact ⟨j + 1, hlt, by go_num, hfw.out, hset.out⟩
                case measure => simp [intOf]; omega
              · have hltI : ¬ (j : Int) < (n7 : Int) := by omega
                clear hop
                have hb10 := hb9.trans (hfr.below (B := w.heap.size) (fun i h => by have : g7 = i := Option.some.inj h; have := hg7w.out; omega) hb9.size)
                have hD10 := hD9.fr hfr (fun h => by have : g7 = G := Option.some.inj h; have := hG7.out; omega) (fun h => by have : g7 = S := Option.some.inj h; have := hG7.out; omega)
                have hu10 := hu9.fr hfr (fun i hi h => by have : g7 = i := Option.some.inj h; have := hi; have := hg9.out; omega)
                have hE10 := hD10
                clear hfr hD9 hu9 hb9
                go_wp2_with fail
                refine (sign_any (hK.below hb10 hKp) hD10 ((hR2.out.ab hb10).mono (fun _ _ _ => trivial)) hk.out hm.out hi1 0 (by omega) hi0 (by omega)).mono ?_
                rw [hT'.out]
                rintro e w12 ⟨g12, n12, c12, hn12, rfl, -, hd12, hb12'⟩
                have hb12 := hb10.trans (hb12'.mono hb10.size)
                have hr12 := hd12.rd.mono (T := fun _ => True) (fun _ _ _ => trivial)
                rw [← hn12] at hr12
                have b12 := hr12.all
                have b10 := (hu10.ab hb12').all
                clear hn12 hd12 hD10 hE10 hb10
                go_wp2_with (first
                  | ((with_reducible refine wpl_string_w 22 9 5 (.tmp 110) rfl ?_ ?_ ?_ ?_ _ ?_ _ b12 ?_); rfl; rfl; rfl; rfl; rfl)
                  | ((with_reducible refine wpl_string_w 22 9 5 (.tmp 112) rfl ?_ ?_ ?_ ?_ _ ?_ _ b10 ?_); rfl; rfl; rfl; rfl; rfl))
                go_ret
                exact ⟨rfl, hb12⟩
  · rw [decide_eq_false hs]
    go_wp2_with fail
    go_ret
    exact ⟨rfl, hb1⟩
theorem table {W : World} (h : laidMetH Tryd.prog Rows.keyedMemoryRow.laid W) : Lib.TabIs Tryd.prog W "plexus/sha256.constants" .u32 (Sha.K.map fun (n : Nat) => (n : Int)) :=
  Lib.tabIs_of_head (rest := []) gTab gTabType Tryd.underlying76 Tryd.underlying63 cellsWord cellsTab h
theorem contract (H : Type) (enc : TypeId × Value → H) (W : World) (base : Nat) (args : Array Value) (ds gs : List (DataW H)) (before : List MemPlace)
    (hval : ∀ (j : Nat) t v, Tryd.f9.params[j]? = some t → args[j]? = some v → Value.okWide Tryd.prog W .any base t v)
    (hW : DataW.Whole enc Tryd.prog Tryd.f9.params.toList Rows.keyedMemorySpec.vars false W args.toList ds gs before) (hL : laidMetH Tryd.prog Rows.keyedMemoryRow.laid W) :
    Calls Tryd.prog 9 args W fun e W' => ∃ v, e = .returned v ∧ Rows.keyedMemorySpec.post enc Tryd.prog Tryd.f9 false true false false W args v W' := by
  have hW' := hW
  obtain ⟨p, q, hA0, hV, rfl, hfz, hnd⟩ := hW
  have hA : DataW.TrodAll enc Tryd.prog W 0 (fun _ => true) true Tryd.f9.params.toList args.toList ds p := hA0
  rw [Tryd.params9] at hA hval
  obtain ⟨v0, vs0, d0, ds0, p0, q0, hargs, rfl, rfl, h0, r0⟩ := trodAll_cons hA
  obtain ⟨v1, vs1, d1, ds1, p1, q1, rfl, rfl, rfl, h1, r1⟩ := trodAll_cons r0
  obtain ⟨rfl, rfl, rfl⟩ := trodAll_nil r1
  obtain rfl : args = #[v0, v1] := by cases args; simp_all
  obtain ⟨rfl, rfl⟩ := trodVars_none hV
  obtain ⟨a0, len0, cap0, rfl⟩ := okWide_slice Tryd.underlying22 (hval 0 22 v0 rfl rfl)
  obtain ⟨a1, len1, cap1, rfl⟩ := okWide_slice Tryd.underlying22 (hval 1 22 v1 rfl rfl)
  have k0 := h0
  have lt0 : ∀ x ∈ p0, x.block < W.heap.size := by obtain ⟨m, hm⟩ := k0; exact DataW.trod_lt m _ _ _ hm
  obtain ⟨z0, w0⟩ := isRow_of_trod Tryd.underlying22 Tryd.underlying5 (by kernel_rfl) h0
  obtain ⟨bs0, hrd0⟩ := rd_of_row w0
  have k1 := h1
  have lt1 : ∀ x ∈ p1, x.block < W.heap.size := by obtain ⟨m, hm⟩ := k1; exact DataW.trod_lt m _ _ _ hm
  obtain ⟨z1, w1⟩ := isRow_of_trod Tryd.underlying22 Tryd.underlying5 (by kernel_rfl) h1
  obtain ⟨bs1, hrd1⟩ := rd_of_row w1
  clear hA0
  refine (walk W (kst_of_tab (table hL)) hrd0 hrd1).mono fun e W' ⟨he, bel⟩ => ?_
  subst he
  exact ⟨_, rfl, _, _, _, [], _, [], hW', trodAll_mk1 (shut_bool Tryd.underlying4 _), (trodAll_cons_mk (Below.trod laidOut (by kernel_rfl) (of_decide_eq_true (by kernel_rfl)) k0 bel lt0) (trodAll_cons_mk (Below.trod laidOut (by kernel_rfl) (of_decide_eq_true (by kernel_rfl)) k1 bel lt1) trodAll_mk0)), rfl, bel.frame _, fun h => by cases h⟩
theorem laid_met (os : Os) : laidMet Tryd.prog Rows.keyedMemoryRow.laid ((laidWorld os).forCall (fun _ _ => 0) ⟨#[], #[.slice none 0 0, .slice none 0 0], []⟩).memory :=
  laidMet_of_run' 8 (by kernel_rfl) (by kernel_rfl)
theorem reads (os : Os) {H : Type} (enc : TypeId × Value → H) : ∃ places, DataW.whole enc Tryd.prog ((laidWorld os).forCall (fun _ _ => 0) ⟨#[], #[.slice none 0 0, .slice none 0 0], []⟩).memory Tryd.f9.params.toList Rows.keyedMemorySpec.vars false #[Value.slice none 0 0, .slice none 0 0].toList 8 = some ([.nil, .nil], [], places) :=
  ⟨[], by kernel_rfl⟩
set_option maxRecDepth 100000 in
theorem lifted (os : Os) (started : os.Started) (H : Type) (enc : TypeId × Value → H) (F : Stop.Interp) :
    ReturnsInHanded {} Tryd.checked os 9 .any ((OpenSpec.ofChange Rows.keyedMemorySpec).preRow enc Tryd.prog Tryd.f9 Rows.keyedMemoryRow.domain false Rows.keyedMemoryRow.laid) (((OpenSpec.ofChange Rows.keyedMemorySpec).at F).post enc Tryd.prog Tryd.f9 false true false false) := by
  obtain ⟨places, hx⟩ := reads os enc
  refine returnsInHanded_of_row (C := Tryd.checked) (s := OpenSpec.ofChange Rows.keyedMemorySpec) own started (by kernel_rfl) Tryd.func9
    (witness_row_at (enc := enc) (C := Tryd.checked) false (laidWorld os) #[.slice none 0 0, .slice none 0 0] rfl (by kernel_rfl) (by kernel_rfl) (by kernel_rfl)
      (OpenSpec.preRow_of_cond 8 hx (by kernel_rfl) (fun k hk => by cases hk) (by kernel_rfl) (laid_met os))) ?_
  intro W base args ds gs before hval hW _ _ _ hL _ _
  exact contract H enc W base args ds gs before hval hW hL
theorem said : Rows.KeyedMemorySaid :=
  OpenClaim.holds_of_cond 9 Tryd.f9 rfl rfl rfl rfl rfl rfl rfl ⟨rfl, rfl, rfl, rfl, rfl⟩ rfl rfl rfl rfl rfl (by kernel_rfl) Tryd.func9 (by kernel_rfl)
    (of_decide_eq_true (by kernel_rfl)) (by unfold Func.isWrapper; first | (rw [if_pos (by decide +kernel)]; kernel_rfl) | (rw [if_neg (by decide +kernel)]; exact ⟨rfl, rfl⟩))
    (fun os started H enc _ F => by rw [OpenClaim.pre_eq_preRow]; exact lifted os started H enc F)
theorem plain (f : FuncId) (fn : Func) (hf : Tryd.pinned.checked.prog.funcNamed "plexus/plexuslaw05.KeyedMemory" = some f) (hfn : Tryd.pinned.checked.prog.funcs[f]? = some fn) :
    false = Tryd.pinned.checked.prog.looks [] ∧ ∀ (j : Nat) t, fn.params[j]? = some t → Tryd.pinned.checked.prog.wantsStandIn t = false := by
  obtain rfl : f = 9 := Option.some.inj ((show Tryd.prog.funcNamed "plexus/plexuslaw05.KeyedMemory" = some 9 by kernel_rfl).symm.trans hf) |>.symm
  obtain rfl : fn = Tryd.f9 := (Option.some.inj (Tryd.func9.symm.trans hfn)).symm
  refine ⟨by kernel_rfl, fun j t ht => ?_⟩
  rw [Tryd.params9] at ht
  have hm : t = 22 ∨ t = 22 := by simpa using Array.mem_of_getElem? ht
  rcases hm with rfl | rfl
  · exact (show Tryd.prog.wantsStandIn 22 = false by kernel_rfl)
  · exact (show Tryd.prog.wantsStandIn 22 = false by kernel_rfl)
/-- The card. -/
theorem card : Rows.KeyedMemoryCardSaid :=
  Claim7.holds_tied_plain_at .later [] _ _ _ _ said (fun _ h => by cases h) (by kernel_rfl) (fun _ h => by cases h) keyedMemory_row_tie rfl ⟨rfl, rfl⟩ (by kernel_rfl) rfl plain (by kernel_rfl)
#print axioms card
end Go.Proofs.YtlofgcglnpjceaaDoor.keyedMemory

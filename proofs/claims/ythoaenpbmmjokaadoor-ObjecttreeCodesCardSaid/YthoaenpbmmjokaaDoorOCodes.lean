/-
  Two different keys have the same bits ahead of the first difference; there the lesser key has the bit 0 and the greater one the bit 1.
-/
import Derived.Test.YthoaenpbmmjokaaDoorArg
import Derived.Test.YthoaenpbmmjokaaDoorObAwk
import Derived.Test.YthoaenpbmmjokaaDoorObO
namespace Go.Proofs.YthoaenpbmmjokaaDoor.objecttreeCodes
open Go.ChangeShapes Go.WideShapes Go.ChangeAt Go.RowKit Go.Pl
set_option maxRecDepth 100000 in
set_option maxHeartbeats 1000000 in
theorem walkl {a b : Ob.Key} (w : World) (hK : Kst w) (ha : a.length ≤ 300) (hb : b.length ≤ 300) :
    Calls Tryd.prog 6 #[.string ⟨a.toArray⟩, .string ⟨b.toArray⟩] w fun e w' => e = .returned (.bool true) ∧ Below w.heap.size w w' := by
  have hsa : (⟨a.toArray⟩ : ByteArray).size = a.length := by simp [ByteArray.size]
  have hsb : (⟨b.toArray⟩ : ByteArray).size = b.length := by simp [ByteArray.size]
  have haI : decide (300 < a.length) = false := by simp; omega
  have haJ : decide (300 < (a.length : Int)) = false := by simp; omega
  have hbI : decide (300 < b.length) = false := by simp; omega
  have hbJ : decide (300 < (b.length : Int)) = false := by simp; omega
  go_enter Tryd.func6, Tryd.ntmps6
  go_wp2_with fail
  refine (awake_any _ hK).mono ?_
  rintro e w1 ⟨rfl, hb1⟩
  go_wp2_with fail
  refine (split_any w1 a b (by omega) (by omega)).mono ?_
  rintro e w2 ⟨rfl, hb2⟩
  have hb2d : Hid (Below w.heap.size w w2) := hb1.trans (hb2.mono hb1.size)
  clear hb1 hb2
  by_cases hab : a = b
  · subst hab
    rw [Ob.split_self]
    go_wp2_with fail
    refine (split_any w2 a a (by omega) (by omega)).mono ?_
    rintro e w3 ⟨rfl, hb3⟩
    rw [Ob.split_self]
    have hb3d : Hid (Below w.heap.size w w3) := hb2d.out.trans (hb3.mono hb2d.out.size)
    clear hb3
    go_wp2_with fail
    go_ret
    exact ⟨rfl, hb3d.out⟩
  · obtain ⟨hsp, hnear⟩ := Ob.split_spec hab
    have hse := Ob.split_of hab hsp
    have hle : Ob.splitN a b ≤ 2699 := by
      have hl := Ob.lcp_le a b
      have : Ob.lcp a b ≤ 299 := Classical.byContradiction fun h => hab (Ob.lcp_both (by omega) (by omega))
      unfold Ob.splitN
      omega
    have hord : Hid ((Go.Op.bytesLess a b = true ∧ Ob.bitN a (Ob.splitN a b) = 0 ∧ Ob.bitN b (Ob.splitN a b) = 1) ∨ (Go.Op.bytesLess a b = false ∧ Ob.bitN a (Ob.splitN a b) = 1 ∧ Ob.bitN b (Ob.splitN a b) = 0)) := by
      cases h : Go.Op.bytesLess a b with
      | true => exact .inl ⟨rfl, Ob.less_bits h⟩
      | false =>
        have h2 := Ob.less_bits (Ob.less_total hab h)
        have hc : Ob.splitN b a = Ob.splitN a b := by
          have := Ob.split_comm a b
          unfold Ob.split at this
          rw [if_neg hab, if_neg (fun e => hab e.symm)] at this
          omega
        rw [hc] at h2
        exact .inr ⟨rfl, h2.2, h2.1⟩
    have hcm : Hid (Ob.split b a = (Ob.splitN a b : Nat)) := by show _ = _; rw [Ob.split_comm, hse]
    rw [hse]
    have hsd := Lib.hid hsp
    generalize Ob.splitN a b = t at hle hord hcm hsd ⊢
    clear hsp hnear hse
    have hne : ((⟨a.toArray⟩ : ByteArray).toList == (⟨b.toArray⟩ : ByteArray).toList) = false := by rw [Ob.toList_bytes, Ob.toList_bytes]; simpa using hab
    have hne2 : (a == b) = false := by simpa using hab
    have htI : decide ((t : Int) < 0) = false := by simp
    have htJ : decide (2700 < (t : Int)) = false := by simp; omega
    have htK : decide (2700 < t) = false := by simp; omega
    go_wp2_with fail
    refine (split_any w2 b a (by omega) (by omega)).mono ?_
    rintro e w3 ⟨rfl, hb3⟩
    rw [hcm.out]
    have hb3d : Hid (Below w.heap.size w w3) := hb2d.out.trans (hb3.mono hb2d.out.size)
    clear hb3 hb2d
    go_wp2_with fail
    go_loopw [6] (fun t6 wr => ∃ i : Nat, i ≤ t ∧ t6 = .int .i64 i ∧ Below w.heap.size w wr) (fun t6 _ => t - (intOf t6).toNat)
    case atStart => exact ⟨0, by omega, rfl, hb3d.out⟩
    case round =>
      obtain ⟨i, hi, rfl, hb⟩ := hrel
      have hid := Lib.hid hi
      have hbd := Lib.hid hb
      clear hi hb
      by_cases hlt : i < t
      · have hltI : (i : Int) < (t : Int) := by omega
        go_wp2_with fail
        refine (bit_any wr a i (by omega) (by omega)).mono ?_
        rintro e w5 ⟨rfl, rfl⟩
        go_wp2_with fail
        refine (bit_any wr b i (by omega) (by omega)).mono ?_
        rintro e w6 ⟨rfl, rfl⟩
        rw [hsd.out.1 i hlt]
        go_wp2_with fail
        go_roundw
        case rel => exact ⟨i + 1, hlt, by go_num, hbd.out⟩
        case measure => simp [intOf]; omega
      · have hltI : ¬ (i : Int) < (t : Int) := by omega
        rcases hord.out with ⟨h1, h2, h3⟩ | ⟨h1, h2, h3⟩
        · have hcmp : Go.Op.bytesLess (⟨a.toArray⟩ : ByteArray).toList (⟨b.toArray⟩ : ByteArray).toList = true := by rw [Ob.toList_bytes, Ob.toList_bytes]; exact h1
          have h2d := Lib.hid h2
          have h3d := Lib.hid h3
          clear h2 h3
          go_wp2_with fail
          refine (bit_any wr a t (by omega) (by omega)).mono ?_
          rintro e w5 ⟨rfl, rfl⟩
          rw [h2d.out]
          go_wp2_with fail
          refine (bit_any wr b t (by omega) (by omega)).mono ?_
          rintro e w6 ⟨rfl, rfl⟩
          rw [h3d.out]
          go_wp2_with fail
          go_ret
          exact ⟨rfl, hbd.out⟩
        · have hcmp : Go.Op.bytesLess (⟨a.toArray⟩ : ByteArray).toList (⟨b.toArray⟩ : ByteArray).toList = false := by rw [Ob.toList_bytes, Ob.toList_bytes]; exact h1
          have h2d := Lib.hid h2
          have h3d := Lib.hid h3
          clear h2 h3
          go_wp2_with fail
          refine (bit_any wr a t (by omega) (by omega)).mono ?_
          rintro e w5 ⟨rfl, rfl⟩
          rw [h2d.out]
          go_wp2_with fail
          refine (bit_any wr b t (by omega) (by omega)).mono ?_
          rintro e w6 ⟨rfl, rfl⟩
          rw [h3d.out]
          go_wp2_with fail
          go_ret
          exact ⟨rfl, hbd.out⟩
set_option maxRecDepth 100000 in
theorem walk {s t : ByteArray} (w : World) (hK : Kst w) (_hs : s.size ≤ maxLen) (_ht : t.size ≤ maxLen) :
    Calls Tryd.prog 6 #[.string s, .string t] w fun e w' => e = .returned (.bool true) ∧ Below w.heap.size w w' := by
  by_cases hs : s.size ≤ 300
  · by_cases ht : t.size ≤ 300
    · exact walkl (a := s.data.toList) (b := t.data.toList) w hK (by simpa using hs) (by simpa using ht)
    · have h1 : decide (300 < s.size) = false := by simp; omega
      have h2 : decide (300 < (s.size : Int)) = false := by simp; omega
      have h3 : decide (300 < t.size) = true := by simp; omega
      have h4 : decide (300 < (t.size : Int)) = true := by simp; omega
      go_enter Tryd.func6, Tryd.ntmps6
      go_wp2_with fail
      refine (awake_any _ hK).mono ?_
      rintro e w1 ⟨rfl, hb1⟩
      go_wp2_with fail
      go_ret
      exact ⟨rfl, hb1⟩
  · have h1 : decide (300 < s.size) = true := by simp; omega
    have h2 : decide (300 < (s.size : Int)) = true := by simp; omega
    go_enter Tryd.func6, Tryd.ntmps6
    go_wp2_with fail
    refine (awake_any _ hK).mono ?_
    rintro e w1 ⟨rfl, hb1⟩
    go_wp2_with fail
    go_ret
    exact ⟨rfl, hb1⟩
theorem table {W : World} (h : laidMetH Tryd.prog Rows.objecttreeCodesRow.laid W) : Lib.TabIs Tryd.prog W "plexus/sha256.constants" .u32 (Sha.K.map fun (n : Nat) => (n : Int)) :=
  Lib.tabIs_of_head (rest := []) gTab gTabType Tryd.underlying69 Tryd.underlying64 cellsWord cellsTab h
theorem contract (H : Type) (enc : TypeId × Value → H) (W : World) (base : Nat) (args : Array Value) (ds gs : List (DataW H)) (before : List MemPlace)
    (hval : ∀ (j : Nat) t v, Tryd.f6.params[j]? = some t → args[j]? = some v → Value.okWide Tryd.prog W .any base t v)
    (hW : DataW.Whole enc Tryd.prog Tryd.f6.params.toList Rows.objecttreeCodesSpec.vars false W args.toList ds gs before) (hL : laidMetH Tryd.prog Rows.objecttreeCodesRow.laid W) :
    Calls Tryd.prog 6 args W fun e W' => ∃ v, e = .returned v ∧ Rows.objecttreeCodesSpec.post enc Tryd.prog Tryd.f6 false true false false W args v W' := by
  have hW' := hW
  obtain ⟨p, q, hA0, hV, rfl, hfz, hnd⟩ := hW
  have hA : DataW.TrodAll enc Tryd.prog W 0 (fun _ => true) true Tryd.f6.params.toList args.toList ds p := hA0
  rw [Tryd.params6] at hA hval
  obtain ⟨v0, vs0, d0, ds0, p0, q0, hargs, rfl, rfl, h0, r0⟩ := trodAll_cons hA
  obtain ⟨v1, vs1, d1, ds1, p1, q1, rfl, rfl, rfl, h1, r1⟩ := trodAll_cons r0
  obtain ⟨rfl, rfl, rfl⟩ := trodAll_nil r1
  obtain rfl : args = #[v0, v1] := by cases args; simp_all
  obtain ⟨rfl, rfl⟩ := trodVars_none hV
  have k0 := h0
  have lt0 : ∀ x ∈ p0, x.block < W.heap.size := by obtain ⟨m, hm⟩ := k0; exact DataW.trod_lt m _ _ _ hm
  obtain ⟨s0, rfl, -, -, z0⟩ := Go.ChangeMaps.open_string Tryd.underlying9 (hval 0 9 v0 rfl rfl) h0
  have k1 := h1
  have lt1 : ∀ x ∈ p1, x.block < W.heap.size := by obtain ⟨m, hm⟩ := k1; exact DataW.trod_lt m _ _ _ hm
  obtain ⟨s1, rfl, -, -, z1⟩ := Go.ChangeMaps.open_string Tryd.underlying9 (hval 1 9 v1 rfl rfl) h1
  clear hA0
  refine (walk W (kst_of_tab (table hL)) z0 z1).mono fun e W' ⟨he, bel⟩ => ?_
  subst he
  exact ⟨_, rfl, _, _, _, [], _, [], hW', trodAll_mk1 (shut_bool Tryd.underlying4 _), (trodAll_cons_mk (Below.trod laidOut (by kernel_rfl) (of_decide_eq_true (by kernel_rfl)) k0 bel lt0) (trodAll_cons_mk (Below.trod laidOut (by kernel_rfl) (of_decide_eq_true (by kernel_rfl)) k1 bel lt1) trodAll_mk0)), rfl, bel.frame _, fun h => by cases h⟩
theorem laid_met (os : Os) : laidMet Tryd.prog Rows.objecttreeCodesRow.laid ((laidWorld os).forCall (fun _ _ => 0) ⟨#[], #[.string ByteArray.empty, .string ByteArray.empty], []⟩).memory :=
  laidMet_of_run' 8 (by kernel_rfl) (by kernel_rfl)
theorem reads (os : Os) {H : Type} (enc : TypeId × Value → H) : ∃ places, DataW.whole enc Tryd.prog ((laidWorld os).forCall (fun _ _ => 0) ⟨#[], #[.string ByteArray.empty, .string ByteArray.empty], []⟩).memory Tryd.f6.params.toList Rows.objecttreeCodesSpec.vars false #[Value.string ByteArray.empty, .string ByteArray.empty].toList 8 = some ([.lit (.string []), .lit (.string [])], [], places) :=
  ⟨[], by kernel_rfl⟩
set_option maxRecDepth 100000 in
theorem lifted (os : Os) (started : os.Started) (H : Type) (enc : TypeId × Value → H) (F : Stop.Interp) :
    ReturnsInHanded {} Tryd.checked os 6 .any ((OpenSpec.ofChange Rows.objecttreeCodesSpec).preRow enc Tryd.prog Tryd.f6 Rows.objecttreeCodesRow.domain false Rows.objecttreeCodesRow.laid) (((OpenSpec.ofChange Rows.objecttreeCodesSpec).at F).post enc Tryd.prog Tryd.f6 false true false false) := by
  obtain ⟨places, hx⟩ := reads os enc
  refine returnsInHanded_of_row (C := Tryd.checked) (s := OpenSpec.ofChange Rows.objecttreeCodesSpec) own started (by kernel_rfl) Tryd.func6
    (witness_row_at (enc := enc) (C := Tryd.checked) false (laidWorld os) #[.string ByteArray.empty, .string ByteArray.empty] rfl (by kernel_rfl) (by kernel_rfl) (by kernel_rfl)
      (OpenSpec.preRow_of_cond 8 hx (by kernel_rfl) (fun k hk => by cases hk) (by kernel_rfl) (laid_met os))) ?_
  intro W base args ds gs before hval hW _ _ _ hL _ _
  exact contract H enc W base args ds gs before hval hW hL
theorem said : Rows.ObjecttreeCodesSaid :=
  OpenClaim.holds_of_cond 6 Tryd.f6 rfl rfl rfl rfl rfl rfl rfl ⟨rfl, rfl, rfl, rfl, rfl⟩ rfl rfl rfl rfl rfl (by kernel_rfl) Tryd.func6 (by kernel_rfl)
    (of_decide_eq_true (by kernel_rfl)) (by unfold Func.isWrapper; first | (rw [if_pos (by decide +kernel)]; kernel_rfl) | (rw [if_neg (by decide +kernel)]; exact ⟨rfl, rfl⟩))
    (fun os started H enc _ F => by rw [OpenClaim.pre_eq_preRow]; exact lifted os started H enc F)
theorem plain (f : FuncId) (fn : Func) (hf : Tryd.pinned.checked.prog.funcNamed "plexus/plexuslaw40.ObjecttreeCodes" = some f) (hfn : Tryd.pinned.checked.prog.funcs[f]? = some fn) :
    false = Tryd.pinned.checked.prog.looks [] ∧ ∀ (j : Nat) t, fn.params[j]? = some t → Tryd.pinned.checked.prog.wantsStandIn t = false := by
  obtain rfl : f = 6 := Option.some.inj ((show Tryd.prog.funcNamed "plexus/plexuslaw40.ObjecttreeCodes" = some 6 by kernel_rfl).symm.trans hf) |>.symm
  obtain rfl : fn = Tryd.f6 := (Option.some.inj (Tryd.func6.symm.trans hfn)).symm
  refine ⟨by kernel_rfl, fun j t ht => ?_⟩
  rw [Tryd.params6] at ht
  have hm : t = 9 ∨ t = 9 := by simpa using Array.mem_of_getElem? ht
  rcases hm with rfl | rfl
  · exact (show Tryd.prog.wantsStandIn 9 = false by kernel_rfl)
  · exact (show Tryd.prog.wantsStandIn 9 = false by kernel_rfl)
/-- The card. -/
theorem card : Rows.ObjecttreeCodesCardSaid :=
  Claim7.holds_tied_plain_at .later [] _ _ _ _ said (fun _ h => by cases h) (by kernel_rfl) (fun _ h => by cases h) objecttreeCodes_row_tie rfl ⟨rfl, rfl⟩ (by kernel_rfl) rfl plain (by kernel_rfl)
#print axioms card
end Go.Proofs.YthoaenpbmmjokaaDoor.objecttreeCodes

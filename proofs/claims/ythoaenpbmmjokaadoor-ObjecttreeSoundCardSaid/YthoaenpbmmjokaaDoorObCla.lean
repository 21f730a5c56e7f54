/-
  The reference's Clash, walked.
-/
import Derived.Test.YthoaenpbmmjokaaDoorObZ
import Derived.Test.YthoaenpbmmjokaaDoorObBy
import Derived.Test.YthoaenpbmmjokaaDoorRefSum
namespace Go.Pl
/-- The digest of bytes, a string value. -/
def shaV (u : List UInt8) : Value := .string ⟨(Sha.sha u).toArray⟩
theorem shaV_one (l : List (List UInt8)) : ∀ u ∈ l.map shaV, u.oneCell' = true := by
  intro u hu
  obtain ⟨x, _, rfl⟩ := List.mem_map.1 hu
  rfl
end Go.Pl
namespace Ob
theorem treeL_len : ∀ (m : Nat) (xs : List It), xs.length ≤ m → (∀ x ∈ xs, x.key.length ≤ 100000 ∧ x.content.length ≤ 1000000) → ∀ u ∈ treeL xs, u.length ≤ 1000000000
  | _, [], _, _, u, hu => by rw [treeL_nil] at hu; rw [List.mem_singleton.1 hu]; decide
  | _, [x], _, h, u, hu => by
    rw [treeL_one] at hu
    have hx := h x (by simp)
    simp only [List.mem_cons, List.not_mem_nil, or_false] at hu
    rcases hu with rfl | rfl
    · have := hx.2; omega
    · simp only [leafB, List.length_cons, List.length_append, num_len, Sha.length_sha]; have := hx.1; omega
  | 0, x :: y :: r, h, _, _, _ => by simp at h
  | m + 1, x :: y :: r, hl, h, u, hu => by
    rw [treeL] at hu
    split at hu
    · rename_i hk
      rcases List.mem_append.1 hu with hu | hu
      · rcases List.mem_append.1 hu with hu | hu
        · exact treeL_len m _ (by rw [List.length_take]; omega) (fun z hz => h z (List.mem_of_mem_take hz)) u hu
        · exact treeL_len m _ (by rw [List.length_drop]; omega) (fun z hz => h z (List.mem_of_mem_drop hz)) u hu
      · rw [List.mem_singleton.1 hu]
        simp only [nodeB, List.length_cons, List.length_append, num_len]
        have := rootH_le ((x :: y :: r).take (zeros (top (x :: y :: r)) (x :: y :: r)))
        have := rootH_le ((x :: y :: r).drop (zeros (top (x :: y :: r)) (x :: y :: r)))
        omega
    · cases hu
end Ob
namespace Go.Proofs.YthoaenpbmmjokaaDoor
open Go.RowKit Go.Pl
theorem infoStr : (Tryd.prog.info? 9).map (fun i => (i.zero, i.size, i.bytes)) = some (some (.string ⟨#[]⟩), 1, 16) := by kernel_rfl
set_option maxRecDepth 100000 in
set_option maxHeartbeats 1000000 in
theorem clash_any (w : World) {A : Option Addr} {n c : Nat} {L : List (List UInt8)} (hL : RdS w (fun _ => True) A n c L) (hn : n ≤ 10000) (hb : ∀ u ∈ L, u.length ≤ 1000000000) (r : Bool) (hr : r = true ↔ ¬ Ob.NoClash L) :
    Calls Tryd.prog 19 #[.slice A n c] w fun e w' => e = .returned (.bool r) ∧ Below w.heap.size w w' := by
  have hLd := Lib.hid hL
  have hnl : Hid (n = L.length) := hL.len
  have hbd := Lib.hid hb
  have hrd := Lib.hid hr
  clear hL hb hr
  go_enter Tryd.func19, Tryd.ntmps19
  have ow0 := made0_ w 9 1 w.heap.size (Nat.le_refl _)
  have b0 : Below w.heap.size w (w.alloc (.cells #[] 9)) := (Below.refl _ _).alloc (Nat.le_refl _) _
  have ow0d := Lib.hid ow0
  have b0d := Lib.hid b0
  clear ow0 b0
  go_wp2_with fail
  go_loopw [3, 4] (fun t3 t4 wr => ∃ (i : Nat) (SA : Option Addr) (sc : Nat), i ≤ n ∧ t4 = .int .i64 i ∧ t3 = .slice SA i sc ∧ wr.ownsRow w.heap.size 9 1 (.slice SA i sc) i ((L.take i).map shaV) ∧
    (∀ (a b : Nat) (u v : List UInt8), a < b → b < i → L[a]? = some u → L[b]? = some v → Sha.sha u = Sha.sha v → u = v) ∧ Below w.heap.size w wr) (fun _ t4 _ => n - (intOf t4).toNat)
  case atStart => exact ⟨0, some ⟨w.heap.size, 0, none⟩, 0, by omega, rfl, rfl, ow0d.out, fun a b u v h1 h2 => by omega, b0d.out⟩
  case round =>
    obtain ⟨i, SA, sc, hi, rfl, rfl, hown, hok, hb⟩ := hrel
    have hownd := Lib.hid hown
    have hokd := Lib.hid hok
    have hbrd := Lib.hid hb
    clear hown hok hb
    by_cases hlt : i < n
    · have hltI : (i : Int) < (n : Int) := by omega
      obtain ⟨u, hu⟩ : ∃ u, L[i]? = some u := ⟨_, List.getElem?_eq_getElem (by have := hnl.out; omega)⟩
      obtain ⟨b, o, s, rfl, -, hbl, ⟨A1, n1, c1, rfl, r1⟩, d1⟩ := hLd.out.get hu
      have e1 := (hbrd.out.cell (p := ⟨b, o + i, none⟩) hbl).trans d1
      have r1d := Lib.hid r1
      have hud := Lib.hid hu
      have hbld := Lib.hid hbl
      have d1d := Lib.hid d1
      have hub := Lib.hid (hbd.out u (List.mem_of_getElem? hu))
      clear r1 hu d1 hbl
      go_wp2_with fail
      refine (refsum_any wr (r1d.out.fr (Fr.of_below (F := fun _ => False) hbrd.out) (fun _ _ h => h)) (by have := hub.out; omega)).mono ?_
      rintro e w2 ⟨rfl, hb2⟩
      have own2 : Hid (w2.ownsRow w.heap.size 9 1 (.slice SA i sc) i ((L.take i).map shaV)) := own_fr hownd.out (Fr.of_below (F := fun _ => False) hb2) (fun _ _ h => h)
      have b2 : Hid (Below w.heap.size w w2) := hbrd.out.trans (hb2.mono hbrd.out.size)
      clear hb2 e1 hownd
      go_wp2_with fail
      go_loopw [6] (fun t6 wr => ∃ k : Nat, k ≤ i ∧ t6 = .int .i64 k ∧ (∀ (a : Nat) (v : List UInt8), a < k → L[a]? = some v → Sha.sha v = Sha.sha u → v = u) ∧ Ab w2 wr) (fun t6 _ => i - (intOf t6).toNat)
      case atStart => exact ⟨0, by omega, rfl, fun a v h => by omega, Ab.refl _⟩
      case round =>
        obtain ⟨k, hk, rfl, hin, hab⟩ := hrel
        have hind := Lib.hid hin
        have habd := Lib.hid hab
        have br2 : Hid (Below w.heap.size w wr) := b2.out.trans (hab.mono b2.out.size)
        clear hin hab
        by_cases hlk : k < i
        · have hlkI : (k : Int) < (i : Int) := by omega
          have hkn : k < n := by omega
          have hknI : (k : Int) < (n : Int) := by omega
          obtain ⟨v, hv⟩ : ∃ v, L[k]? = some v := ⟨_, List.getElem?_eq_getElem (by have := hnl.out; omega)⟩
          obtain ⟨b', o', s', hbe, -, -, ⟨A2, n2, c2, rfl, r2⟩, d2⟩ := hLd.out.get hv
          cases hbe
          obtain ⟨sb, so, hSA, -, hsb, hsc⟩ := (own_row own2.out).at_ (by omega)
          subst hSA
          have hcell : w2.cell? ⟨sb, so + k, none⟩ = some (.string ⟨(Sha.sha v).toArray⟩) := by
            rw [hsc k (by omega), List.getElem?_map, List.getElem?_take, if_pos hlk, hv]
            rfl
          have c1' := (habd.out.cell (p := ⟨sb, so + k, none⟩) hsb).trans hcell
          have hvd := Lib.hid hv
          have r2d := Lib.hid r2
          by_cases hsh : Sha.sha v = Sha.sha u
          · have q1 := str_eq (a := Sha.sha v) (b := Sha.sha u) true ⟨fun _ => hsh, fun _ => rfl⟩
            have q2 : (Sha.sha v == Sha.sha u) = true := by simpa using hsh
            have hshd := Lib.hid hsh
            have u1 : ∀ w', Ab wr.drew w' → w'.cell? ⟨sb, so + k, none⟩ = some (.string ⟨(Sha.sha v).toArray⟩) := fun w' h => (Below.cell h (p := ⟨sb, so + k, none⟩) (Nat.lt_of_lt_of_le hsb habd.out.size)).trans c1'
            have u2 : ∀ w', Ab wr.drew w' → w'.cell? ⟨b, o + k, none⟩ = some (.slice A2 n2 c2) := fun w' h => (Below.cell h (p := ⟨b, o + k, none⟩) (Nat.lt_of_lt_of_le hbld.out br2.out.size)).trans ((br2.out.cell (p := ⟨b, o + k, none⟩) hbld.out).trans d2)
            have u3 : ∀ w', Ab wr.drew w' → w'.cell? ⟨b, o + i, none⟩ = some (.slice A1 n1 c1) := fun w' h => (Below.cell h (p := ⟨b, o + i, none⟩) (Nat.lt_of_lt_of_le hbld.out br2.out.size)).trans ((br2.out.cell (p := ⟨b, o + i, none⟩) hbld.out).trans d1d.out)
            have fr2 : Hid (Fr (fun _ => False) w wr) := Fr.of_below br2.out
            have u5 : ∀ w', Ab wr.drew w' → Bytes w' w'.heap.size (.slice A2 n2 c2) v := fun w' h => (((r2d.out.fr fr2.out (fun _ _ h => h)).ab (ab_drew wr)).ab h).bytes (fun i hi _ => hi)
            have u6 : ∀ w', Ab wr.drew w' → Bytes w' w'.heap.size (.slice A1 n1 c1) u := fun w' h => (((r1d.out.fr fr2.out (fun _ _ h => h)).ab (ab_drew wr)).ab h).bytes (fun i hi _ => hi)
            have ab3 : Hid (Ab w2 wr.drew) := Ab.trans _ _ _ habd.out (ab_drew wr)
            have b3 : Hid (Below w.heap.size w wr.drew) := br2.out.trans ((ab_drew wr).mono br2.out.size)
            by_cases huv : v = u
            · have q3 := str_eq (a := v) (b := u) true ⟨fun _ => huv, fun _ => rfl⟩
              have q4 : (v == u) = true := by simpa using huv
              have huvd := Lib.hid huv
              clear hsh huv hv d2 r2 hcell c1' hsc
              go_upto_region 9 with fail
              refine wp_region_plan Ab Ab.refl Ab.trans [([0, 1, 2, 3, 4, 5, 6, 7, 8, 9, 10, 11, 12, 13, 14, 15, 16, 17], 18)] [] (by kernel_rfl) (by kernel_rfl) (fun _ _ _ _ _ h => h) ?_
              simp only [wpPlan, ordPick, Option.toList_some, List.cons_append, List.nil_append, List.getElem?_cons_succ, List.getElem?_cons_zero]
              iterate 3 (go_big_quiet_step (exact fun _ => rfl))
              refine wpq_load_one rfl 9 (.tmp 26) rfl ⟨sb, so + k, none⟩ rfl _ u1 _ Tryd.underlying9 rfl ?_
              simp only [Act.put, List.setIfInBounds_toArray, List.set_cons_succ, List.set_cons_zero]
              iterate 6 (go_big_quiet_step (exact fun _ => rfl))
              refine wpq_load_w rfl 23 (.tmp 33) rfl ⟨b, o + k, none⟩ rfl _ u2 _ Tryd.underlying23 rfl ?_
              simp only [Act.put, List.setIfInBounds_toArray, List.set_cons_succ, List.set_cons_zero]
              refine wpq_string rfl 23 9 5 (.tmp 34) rfl Tryd.underlying23 Tryd.underlying5 Tryd.underlying9 A2 n2 c2 rfl v u5 ?_
              simp only [Act.put, List.setIfInBounds_toArray, List.set_cons_succ, List.set_cons_zero]
              iterate 3 (go_big_quiet_step (exact fun _ => rfl))
              refine wpq_load_w rfl 23 (.tmp 38) rfl ⟨b, o + i, none⟩ rfl _ u3 _ Tryd.underlying23 rfl ?_
              simp only [Act.put, List.setIfInBounds_toArray, List.set_cons_succ, List.set_cons_zero]
              refine wpq_string rfl 23 9 5 (.tmp 39) rfl Tryd.underlying23 Tryd.underlying5 Tryd.underlying9 A1 n1 c1 rfl u u6 ?_
              simp only [Act.put, List.setIfInBounds_toArray, List.set_cons_succ, List.set_cons_zero]
              iterate 1 (go_big_quiet_step (exact fun _ => rfl))
              refine wpQuiet_nil ?_
              go_wp2_with fail
              refine And.intro (Ab.refl _) (wpQuiet_nil ?_)
              go_wp2_with fail
              go_roundw
              case rel =>
                refine ⟨k + 1, hlk, by go_num, fun a z ha hz hs => ?_, ab3.out⟩
                rcases Nat.lt_or_ge a k with h | h
                · exact hind.out a z h hz hs
                · obtain rfl : a = k := by omega
                  rw [hvd.out] at hz
                  cases hz
                  exact huvd.out
              case measure => simp [intOf]; omega
            · have q3 := str_eq (a := v) (b := u) false ⟨fun h => (by cases h), fun h => (huv h).elim⟩
              have q4 : (v == u) = false := by simpa using huv
              have hF : Hid (r = true) := hrd.out.2 (fun hnc => huv (hnc v (List.mem_of_getElem? hvd.out) u (List.mem_of_getElem? hud.out) hshd.out))
              clear hsh huv hv d2 r2 hcell c1' hsc
              go_upto_region 9 with fail
              refine wp_region_plan Ab Ab.refl Ab.trans [([0, 1, 2, 3, 4, 5, 6, 7, 8, 9, 10, 11, 12, 13, 14, 15, 16, 17], 18)] [] (by kernel_rfl) (by kernel_rfl) (fun _ _ _ _ _ h => h) ?_
              simp only [wpPlan, ordPick, Option.toList_some, List.cons_append, List.nil_append, List.getElem?_cons_succ, List.getElem?_cons_zero]
              iterate 3 (go_big_quiet_step (exact fun _ => rfl))
              refine wpq_load_one rfl 9 (.tmp 26) rfl ⟨sb, so + k, none⟩ rfl _ u1 _ Tryd.underlying9 rfl ?_
              simp only [Act.put, List.setIfInBounds_toArray, List.set_cons_succ, List.set_cons_zero]
              iterate 6 (go_big_quiet_step (exact fun _ => rfl))
              refine wpq_load_w rfl 23 (.tmp 33) rfl ⟨b, o + k, none⟩ rfl _ u2 _ Tryd.underlying23 rfl ?_
              simp only [Act.put, List.setIfInBounds_toArray, List.set_cons_succ, List.set_cons_zero]
              refine wpq_string rfl 23 9 5 (.tmp 34) rfl Tryd.underlying23 Tryd.underlying5 Tryd.underlying9 A2 n2 c2 rfl v u5 ?_
              simp only [Act.put, List.setIfInBounds_toArray, List.set_cons_succ, List.set_cons_zero]
              iterate 3 (go_big_quiet_step (exact fun _ => rfl))
              refine wpq_load_w rfl 23 (.tmp 38) rfl ⟨b, o + i, none⟩ rfl _ u3 _ Tryd.underlying23 rfl ?_
              simp only [Act.put, List.setIfInBounds_toArray, List.set_cons_succ, List.set_cons_zero]
              refine wpq_string rfl 23 9 5 (.tmp 39) rfl Tryd.underlying23 Tryd.underlying5 Tryd.underlying9 A1 n1 c1 rfl u u6 ?_
              simp only [Act.put, List.setIfInBounds_toArray, List.set_cons_succ, List.set_cons_zero]
              iterate 1 (go_big_quiet_step (exact fun _ => rfl))
              refine wpQuiet_nil ?_
              go_wp2_with fail
              refine And.intro (Ab.refl _) (wpQuiet_nil ?_)
              go_wp2_with fail
              go_ret
              exact ⟨by rw [hF.out]; rfl, b3.out⟩
          · have q1 := str_eq (a := Sha.sha v) (b := Sha.sha u) false ⟨fun h => (by cases h), fun h => (hsh h).elim⟩
            have q2 : (Sha.sha v == Sha.sha u) = false := by simpa using hsh
            have hshd := Lib.hid hsh
            have sh1 : Hid (Sha.sha v ≠ Sha.sha u) := hsh
            clear hsh hv d2 r2 hcell hsc
            go_upto_region 9 with fail
            go_quiet (fail)
            go_wp2_with fail
            go_roundw
            case rel =>
              refine ⟨k + 1, hlk, by go_num, fun a z ha hz hs => ?_, Ab.trans _ _ _ habd.out ((Fr.refl (fun _ => False) wr).drewN _ |>.below (fun _ h => h.elim) (Nat.le_refl _))⟩
              rcases Nat.lt_or_ge a k with h | h
              · exact hind.out a z h hz hs
              · obtain rfl : a = k := by omega
                rw [hvd.out] at hz
                cases hz
                exact absurd hs sh1.out
            case measure => simp [intOf]; omega
        · have hlkI : ¬ (k : Int) < (i : Int) := by omega
          have hki : Hid (k = i) := by show k = i; omega
          have own3 : wr.ownsRow w.heap.size 9 1 (.slice SA i sc) i ((L.take i).map shaV) := own_fr own2.out (Fr.of_below (F := fun _ => False) habd.out) (fun _ _ h => h)
          have ow := own_alc own3 (.cells #[.string ⟨(Sha.sha u).toArray⟩] 9)
          have ro := Row.new wr 9 #[.string ⟨(Sha.sha u).toArray⟩] (sz := 1) (n := 1) _ rfl rfl (by decide)
          have on : ∀ y ∈ #[Value.string ⟨(Sha.sha u).toArray⟩].toList, y.oneCell' = true := by intro y hy; simp at hy; rw [hy]; rfl
          have hbs : w.heap.size ≤ (wr.alloc (.cells #[.string ⟨(Sha.sha u).toArray⟩] 9)).heap.size := by have := br2.out.size; simp; omega
          have own3d := Lib.hid own3
          clear own3
          go_wp2_with (at_builtin; refine wpl_app rfl (.tmp 43) (.tmp 45) 58 rfl w.heap.size 9 _ 1 16 Tryd.underlying58 infoStr rfl (by decide) (by decide) _ rfl i ((L.take i).map shaV) ow _ _ 1 1 rfl _ ro on (by omega) hbs (i + 1) rfl ?h2)
          case h2 =>
            intro A6 c6 w6 o6 g6 z6
            have o7 : Hid (w6.ownsRow w.heap.size 9 1 (.slice A6 (i + 1) c6) (i + 1) ((L.take (i + 1)).map shaV)) := by
              show World.ownsRow _ _ _ _ _ _ _
              have e : (L.take (i + 1)).map shaV = (L.take i).map shaV ++ #[Value.string ⟨(Sha.sha u).toArray⟩].toList := by
                have hil : i < L.length := by have := hnl.out; omega
                have hue : L[i]'hil = u := (List.getElem?_eq_some_iff.1 hud.out).2
                rw [List.take_succ_eq_append_getElem hil, hue, List.map_append]
                rfl
              rw [e, List.map_take]
              exact o6
            have b6 : Hid (Below w.heap.size w w6) := br2.out.trans ((((Fr.refl (fun j => (Value.slice SA i sc).ownBlock = some j) wr).alloc _).grown g6 (fun _ e => .inl e)).below (fun j e => (own_lt own3d.out j e).1) br2.out.size)
            clear o6 g6 z6 ow ro on hbs
            go_wp2_with fail
            go_roundw
            case rel =>
              refine ⟨i + 1, A6, c6, hlt, by go_num, rfl, o7.out, fun a b' x y hab hb' hx hy hs => ?_, b6.out⟩
              rcases Nat.lt_or_ge b' i with h | h
              · exact hokd.out a b' x y hab h hx hy hs
              · obtain rfl : b' = i := by omega
                rw [hud.out] at hy
                cases hy
                exact hind.out a x (by have := hki.out; omega) hx hs
            case measure => simp [intOf]; omega
    · have hltI : ¬ (i : Int) < (n : Int) := by omega
      have hF : Hid (r = false) := by
        refine bool_of hrd.out (fun h => h fun x hx y hy hs => ?_)
        obtain ⟨a, ha⟩ := List.getElem?_of_mem hx
        obtain ⟨b', hb'⟩ := List.getElem?_of_mem hy
        have h1 := (List.getElem?_eq_some_iff.1 ha).1
        have h2 := (List.getElem?_eq_some_iff.1 hb').1
        have h3 := hnl.out
        rcases Nat.lt_trichotomy a b' with h | h | h
        · exact hokd.out a b' x y h (by omega) ha hb' hs
        · subst h
          rw [ha] at hb'
          cases hb'
          rfl
        · exact (hokd.out b' a y x h (by omega) hb' ha hs.symm).symm
      clear hi hlt
      go_wp2_with fail
      go_ret
      exact ⟨by rw [hF.out]; rfl, hbrd.out⟩
end Go.Proofs.YthoaenpbmmjokaaDoor

/-
  BitsWithout: for any two maps the law returns true: those are told that one has and the other has not. No condition.
-/
import Derived.Test.YtabccjmkgokglaaQuiet
namespace Go.Proofs.Ytabccjmkgokglaa
open Go.ChangeShapes Go.WideShapes Go.ChangeAt Go.RowKit
open Go.Sort (grow)
theorem without_self (m : List Nat) (hm : Ok m) (w : World) : Calls Try.prog 20 #[mval m, mval m] w fun e w' => e = .returned (mval zeros) ∧ Below w.heap.size w w' := by
  have h := without_any m m hm hm w
  rwa [wout_self hm] at h
theorem without_none (m : List Nat) (hm : Ok m) (w : World) : Calls Try.prog 20 #[mval m, mval zeros] w fun e w' => e = .returned (mval m) ∧ Below w.heap.size w w' := by
  have h := without_any m zeros hm ok_zeros w
  rwa [wout_none hm] at h
theorem count_zeros (w : World) : Calls Try.prog 21 #[mval zeros] w fun e w' => e = .returned (.int .i64 0) ∧ Below w.heap.size w w' :=
  (count_any zeros ok_zeros w).mono fun e w' ⟨he, hb⟩ => ⟨by rw [he, show popTo zeros 16 = 0 from by decide +kernel]; rfl, hb⟩
set_option maxHeartbeats 2000000 in
theorem lawWithout (m o : List Nat) (hm : Ok m) (ho : Ok o) (w : World) :
    Calls Try.prog 7 #[mval m, mval o] w fun e w' => e = .returned (.bool true) ∧ Below w.heap.size w w' := by
  have hl := hm.1
  have hl2 := ho.1
  go_enter Try.func7, Try.ntmps7
  go_wp2_with (refine wpl_load23 rfl _ rfl rfl (heap_alloc2_old _ _ _) hl ?_)
  refine (truths_map m hm _).mono ?_
  rintro e w1 ⟨g1, cap1, rfl, _, hg1, hc1, hb1⟩
  have m1 := blk_new2 hb1
  have o1 := blk_new2' hb1
  have lm1 := (Array.getElem?_eq_some_iff.1 m1).1
  have lo1 := (Array.getElem?_eq_some_iff.1 o1).1
  have bel1 := below_new2 hb1
  have HC1 := Lib.hid hc1
  clear hc1 hb1
  go_wp2_with (refine wpl_load23 rfl _ rfl rfl o1 hl2 ?_)
  refine (truths_map o ho _).mono ?_
  rintro e w2 ⟨g2, cap2, rfl, _, hg2, hc2, hb2⟩
  have m2 := blk_below hb2 lm1 m1
  have o2 := blk_below hb2 lo1 o1
  have lm2 := (Array.getElem?_eq_some_iff.1 m2).1
  have bel2 := below_then bel1 hb2
  have HC2 := Lib.hid hc2
  have HB2 := Lib.hid hb2
  clear hc2 hb2 m1 o1 lo1 lm1 bel1
  go_wp2_with (first | (refine wpl_load23 rfl _ rfl rfl m2 hl ?_) | (refine wpl_load23 rfl _ rfl rfl o2 hl2 ?_))
  refine (without_any m o hm ho _).mono ?_
  rintro e w3 ⟨rfl, hb3⟩
  have m3 := blk_below hb3 lm2 m2
  have lm3 := (Array.getElem?_eq_some_iff.1 m3).1
  have bel3 := below_then bel2 hb3
  go_wp2_with fail
  refine (truths_map _ (ok_wout hm) _).mono ?_
  rintro e w4 ⟨g3, cap3, rfl, _, hg3, hc3, hb4⟩
  have m4 := blk_below hb4 lm3 m3
  have lm4 := (Array.getElem?_eq_some_iff.1 m4).1
  have bel4 := below_then bel3 hb4
  have lg1 := Nat.lt_of_lt_of_le hg1 HB2.out.size
  have d1 : ∀ j, j < 128 → w4.cell? ⟨g1, j, none⟩ = some (.bool (bit m j)) := fun j hj => by
    rw [hb4.cell (p := ⟨g1, j, none⟩) (Nat.lt_of_lt_of_le lg1 hb3.size), hb3.cell (p := ⟨g1, j, none⟩) lg1, HB2.out.cell (p := ⟨g1, j, none⟩) hg1]
    exact HC1.out j hj
  have d2 : ∀ j, j < 128 → w4.cell? ⟨g2, j, none⟩ = some (.bool (bit o j)) := fun j hj => by
    rw [hb4.cell (p := ⟨g2, j, none⟩) (Nat.lt_of_lt_of_le hg2 hb3.size), hb3.cell (p := ⟨g2, j, none⟩) hg2]
    exact HC2.out j hj
  have d3 : ∀ j, j < 128 → w4.cell? ⟨g3, j, none⟩ = some (.bool (bit m j && !bit o j)) := fun j hj => by
    rw [hc3 j hj, wout_bit hm ho j hj]
  have lg1' := Nat.lt_of_lt_of_le lg1 (Nat.le_trans hb3.size hb4.size)
  have lg2' := Nat.lt_of_lt_of_le hg2 (Nat.le_trans hb3.size hb4.size)
  have D1 := Lib.hid d1
  have D2 := Lib.hid d2
  have D3 := Lib.hid d3
  clear d1 d2 d3 hc3 hb4 hb3 lg1 hg1 hg2 HC1 HC2 HB2 m2 m3 o2 lm2 lm3 bel2 bel3
  go_wp2_with fail
  go_loopw [8] (fun i wr => ∃ k : Nat, k ≤ 128 ∧ i = .int .i64 k ∧ Below w4.heap.size w4 wr) (fun i _ => 128 - (intOf i).toNat)
  case atStart => exact ⟨0, Nat.zero_le _, rfl, Below.refl _ _⟩
  case round =>
    obtain ⟨k, hk, rfl, hbel⟩ := hrel
    by_cases hlt : k < 128
    · have hd : decide ((k : Int) < 128) = true := by simp; omega
      have c1 := (hbel.cell (p := ⟨g1, k, none⟩) lg1').trans (D1.out k hlt)
      have c2 := (hbel.cell (p := ⟨g2, k, none⟩) lg2').trans (D2.out k hlt)
      have c3 := (hbel.cell (p := ⟨g3, k, none⟩) hg3).trans (D3.out k hlt)
      generalize bit m k = x at *
      generalize bit o k = y at *
      cases x
      · simp only [Bool.false_and] at c3
        go_wp2
        go_quiet (fail)
        go_wp2
        exact ⟨⟨k + 1, by omega, by go_num, below_drewN hbel _⟩, by simp [intOf]; omega⟩
      · simp only [Bool.true_and] at c3
        go_wp2
        go_quiet (fail)
        go_wp2
        exact ⟨⟨k + 1, by omega, by go_num, below_drewN hbel _⟩, by simp [intOf]; omega⟩
    · have hk16 : k = 128 := by omega
      subst hk16
      have m5 := blk_below hbel lm4 m4
      go_wp2
      refine wp_region_quiet_below (by kernel_rfl) (by kernel_rfl) ?_
      refine wpq_load23 rfl _ rfl rfl m5 hl ?_
      refine wpq_load23 rfl _ rfl rfl m5 hl ?_
      quiet_step ((go_at_call 20; refine Calls.regrown_of (without_self m hm _)))
      quiet_step ((go_at_call 21; refine Calls.regrown_of (count_zeros _)))
      quiet_step (fail)
      quiet_step (fail)
      refine wpq_load23 rfl _ rfl rfl m5 hl ?_
      quiet_step (fail)
      quiet_step ((go_at_call 20; refine Calls.regrown_of (without_none m hm _)))
      refine wpq_load23 rfl _ rfl rfl m5 hl ?_
      refine wpq_eql23 (m := m) rfl _ _ _ rfl rfl rfl hl ?_
      quiet_step (fail)
      quiet_step (fail)
      quiet_step ((go_at_call 13; refine Calls.regrown_of (lives_any _)))
      quiet_step (fail)
      quiet_step (fail)
      refine wpQuiet_nil ?_
      intro w6 hw6
      have hb6 := near_iff.1 hw6
      clear hw6
      go_wp2
      go_ret
      exact ⟨rfl, below_then (below_then bel4 hbel) hb6⟩
/-! ### THE ROW -/
set_option maxRecDepth 100000 in
theorem bitsWithout_lifted (os : Os) (started : os.Started) (H : Type) (enc : TypeId × Value → H) :
    ReturnsInHanded {} Try.checked os 7 .any (Rows.bitsWithoutSpec.pre6 enc Try.prog Try.f7 Rows.bitsWithoutRow.domain false) (Rows.bitsWithoutSpec.post enc Try.prog Try.f7 false true false false) := by
  refine returnsInHanded_of_change (C := Try.checked) own started (by kernel_rfl) Try.func7
    (ChangeSpec.witness6 (enc := enc) (C := Try.checked) false ⟨#[], #[.agg #[.int .u8 0, .int .u8 0, .int .u8 0, .int .u8 0, .int .u8 0, .int .u8 0, .int .u8 0, .int .u8 0, .int .u8 0, .int .u8 0, .int .u8 0, .int .u8 0, .int .u8 0, .int .u8 0, .int .u8 0, .int .u8 0], .agg #[.int .u8 0, .int .u8 0, .int .u8 0, .int .u8 0, .int .u8 0, .int .u8 0, .int .u8 0, .int .u8 0, .int .u8 0, .int .u8 0, .int .u8 0, .int .u8 0, .int .u8 0, .int .u8 0, .int .u8 0, .int .u8 0]], []⟩ 8 (by kernel_rfl) (by kernel_rfl) (by kernel_rfl) (by kernel_rfl)) ?_
  intro W base args ds gs before hval0 hW _ _
  have hval : ∀ (j : Nat) t v, Try.f7.params[j]? = some t → args[j]? = some v → Value.okWide Try.prog W .any base t v := hval0
  have hW' := hW
  obtain ⟨p, q, hA0, hV, rfl, _, _⟩ := hW
  have hA : DataW.TrodAll enc Try.prog W 0 (fun _ => true) true Try.f7.params.toList args.toList ds p := hA0
  rw [Try.params7] at hA hval
  obtain ⟨v0, vs0, d0, ds0, p0, q0, hargs, rfl, rfl, h0, r0⟩ := trodAll_cons hA
  obtain ⟨v1, vs1, d1, ds1, p1, q1, rfl, rfl, rfl, h1, r1⟩ := trodAll_cons r0
  obtain ⟨rfl, rfl, rfl⟩ := trodAll_nil r1
  obtain rfl : args = #[v0, v1] := by cases args; simp_all
  obtain ⟨rfl, rfl⟩ := trodVars_none hV
  have k0 := h0
  have lt0 : ∀ x ∈ p0, x.block < W.heap.size := by obtain ⟨m, hm⟩ := k0; exact DataW.trod_lt m _ _ _ hm
  obtain ⟨m0, ok0, rfl⟩ := open_map (hval 0 23 v0 rfl rfl) h0
  have k1 := h1
  have lt1 : ∀ x ∈ p1, x.block < W.heap.size := by obtain ⟨m, hm⟩ := k1; exact DataW.trod_lt m _ _ _ hm
  obtain ⟨m1, ok1, rfl⟩ := open_map (hval 1 23 v1 rfl rfl) h1
  clear hA0 hval0
  refine (lawWithout m0 m1 ok0 ok1 W).mono fun e W' ⟨he, bel⟩ => ?_
  subst he
  exact ⟨_, rfl, _, _, _, [], _, [], hW', trodAll_mk1 (shut_bool Try.underlying4 _), (trodAll_cons_mk (Below.trod laidOut (by kernel_rfl) (of_decide_eq_true (by kernel_rfl)) k0 bel lt0) (trodAll_cons_mk (Below.trod laidOut (by kernel_rfl) (of_decide_eq_true (by kernel_rfl)) k1 bel lt1) trodAll_mk0)), rfl, bel.frame _, fun h => by cases h⟩
theorem bitsWithout_over : Rows.bitsWithoutRow.holds Try.pinned (OpenSpec.ofChange Rows.bitsWithoutSpec) :=
  OpenClaim.holds_of_wide 7 Try.f7 rfl rfl rfl rfl rfl rfl rfl ⟨rfl, rfl, rfl, rfl, rfl⟩ rfl rfl rfl rfl rfl (by kernel_rfl) Try.func7 (by kernel_rfl)
    (of_decide_eq_true (by kernel_rfl)) (by unfold Func.isWrapper; first | (rw [if_pos (by decide +kernel)]; kernel_rfl) | (rw [if_neg (by decide +kernel)]; exact ⟨rfl, rfl⟩))
    (fun os started H enc _ => bitsWithout_lifted os started H enc)
/-- THE STATEMENT. -/
theorem bitsWithout_holds : Rows.BitsWithoutSaid := bitsWithout_over
end Go.Proofs.Ytabccjmkgokglaa

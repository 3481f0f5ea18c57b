/-
  BitsTakes: for every map and any two numbers the law returns true: what is taken is used, what is given is not, and all others are as before. No condition.
-/
import Derived.Test.YtabccjmkgokglaaQuiet
namespace Go.Proofs.Ytabccjmkgokglaa
open Go.ChangeShapes Go.WideShapes Go.ChangeAt Go.RowKit
open Go.Sort (grow)
theorem take_again (m : List Nat) (hm : Ok m) (n : Int) (w : World) : Calls Try.prog 18 #[mval (takeL m n), .int .i64 n] w fun e w' => e = .returned (mval (takeL m n)) ∧ Below w.heap.size w w' := by
  have h := takeAny (takeL m n) (ok_take hm n) n w
  rwa [take_twice hm] at h
theorem give_again (m : List Nat) (hm : Ok m) (n : Int) (w : World) : Calls Try.prog 19 #[mval (giveL m n), .int .i64 n] w fun e w' => e = .returned (mval (giveL m n)) ∧ Below w.heap.size w w' := by
  have h := giveAny (giveL m n) (ok_give hm n) n w
  rwa [give_twice hm] at h
set_option maxHeartbeats 4000000 in
theorem lawTakes (m : List Nat) (hm : Ok m) (n k : Int) (w : World) :
    Calls Try.prog 6 #[mval m, .int .i64 n, .int .i64 k] w fun e w' => e = .returned (.bool true) ∧ Below w.heap.size w w' := by
  have hl := hm.1
  go_enter Try.func6, Try.ntmps6
  go_wp2_with (refine wpl_load23 rfl _ rfl rfl (heap_alloc_new _ _) hl ?_)
  refine (truths_map m hm _).mono ?_
  rintro e w1 ⟨g1, cap1, rfl, _, hg1, hc1, hb1⟩
  have m1 := blk_new hb1
  have lm1 := (Array.getElem?_eq_some_iff.1 m1).1
  have bel1 := below_new hb1
  have HC1 := Lib.hid hc1
  clear hc1 hb1
  go_wp2_with (refine wpl_load23 rfl _ rfl rfl m1 hl ?_)
  refine (takeAny m hm n _).mono ?_
  rintro e w2 ⟨rfl, hb2⟩
  go_wp2_with fail
  refine (truths_map _ (ok_take hm n) _).mono ?_
  rintro e w3 ⟨g2, cap2, rfl, _, hg2, hc2, hb3⟩
  have hb13 := below_then hb2 hb3
  have m3 := blk_below hb13 lm1 m1
  have lm3 := (Array.getElem?_eq_some_iff.1 m3).1
  have bel3 := below_then bel1 hb13
  have HC2 := Lib.hid hc2
  have HB3 := Lib.hid hb13
  have lg1 := Nat.lt_of_lt_of_le hg1 hb13.size
  clear hc2 hb2 hb3 hb13 m1 lm1 bel1
  go_wp2_with (refine wpl_load23 rfl _ rfl rfl m3 hl ?_)
  refine (giveAny m hm n _).mono ?_
  rintro e w4 ⟨rfl, hb4⟩
  go_wp2_with fail
  refine (truths_map _ (ok_give hm n) _).mono ?_
  rintro e w5 ⟨g3, cap3, rfl, _, hg3, hc3, hb5⟩
  have hb35 := below_then hb4 hb5
  have m5 := blk_below hb35 lm3 m3
  have lm5 := (Array.getElem?_eq_some_iff.1 m5).1
  have bel5 := below_then bel3 hb35
  have d1 : ∀ j, j < 128 → w5.cell? ⟨g1, j, none⟩ = some (.bool (bit m j)) := fun j hj => by
    rw [hb35.cell (p := ⟨g1, j, none⟩) lg1, HB3.out.cell (p := ⟨g1, j, none⟩) hg1]
    exact HC1.out j hj
  have d2 : ∀ j, j < 128 → w5.cell? ⟨g2, j, none⟩ = some (.bool (bit m j || decide (n = (j : Int) + 1))) := fun j hj => by
    rw [hb35.cell (p := ⟨g2, j, none⟩) hg2, HC2.out j hj, take_bit hm n j hj]
  have d3 : ∀ j, j < 128 → w5.cell? ⟨g3, j, none⟩ = some (.bool (bit m j && !decide (n = (j : Int) + 1))) := fun j hj => by
    rw [hc3 j hj, give_bit hm n j hj]
  have lg1' := Nat.lt_of_lt_of_le lg1 hb35.size
  have lg2' := Nat.lt_of_lt_of_le hg2 hb35.size
  have D1 := Lib.hid d1
  have D2 := Lib.hid d2
  have D3 := Lib.hid d3
  clear d1 d2 d3 hc3 hb4 hb5 hb35 hg1 hg2 lg1 HC1 HC2 HB3 m3 lm3 bel3
  go_wp2_with fail
  go_loopw [10] (fun i wr => ∃ q : Nat, q ≤ 128 ∧ i = .int .i64 q ∧ Below w5.heap.size w5 wr) (fun i _ => 128 - (intOf i).toNat)
  case atStart => exact ⟨0, Nat.zero_le _, rfl, Below.refl _ _⟩
  case round =>
    obtain ⟨q, hq, rfl, hbel⟩ := hrel
    by_cases hlt : q < 128
    · have hd : decide ((q : Int) < 128) = true := by simp; omega
      have c1 := (hbel.cell (p := ⟨g1, q, none⟩) lg1').trans (D1.out q hlt)
      have c2 := (hbel.cell (p := ⟨g2, q, none⟩) lg2').trans (D2.out q hlt)
      have c3 := (hbel.cell (p := ⟨g3, q, none⟩) hg3).trans (D3.out q hlt)
      generalize bit m q = x at *
      by_cases hn : n = (q : Int) + 1
      · have hb : (n == (q : Int) + 1) = true := by simpa using hn
        rw [show decide (n = (q : Int) + 1) = true from by simpa using hn] at c2 c3
        have HN := Lib.hid hn
        clear hn
        cases x
        all_goals
          simp only [Bool.false_or, Bool.true_or, Bool.false_and, Bool.true_and, Bool.not_true] at c2 c3
          go_wp2
          go_quiet (fail)
          go_wp2
          exact ⟨⟨q + 1, by omega, by go_num, below_drewN hbel _⟩, by simp [intOf]; omega⟩
      · have hb : (n == (q : Int) + 1) = false := by simpa using hn
        rw [show decide (n = (q : Int) + 1) = false from by simpa using hn] at c2 c3
        have HN := Lib.hid hn
        clear hn
        cases x
        all_goals
          simp only [Bool.false_or, Bool.true_or, Bool.false_and, Bool.true_and, Bool.not_false] at c2 c3
          go_wp2
          go_quiet (fail)
          go_wp2
          exact ⟨⟨q + 1, by omega, by go_num, below_drewN hbel _⟩, by simp [intOf]; omega⟩
    · have hk16 : q = 128 := by omega
      subst hk16
      have m6 := blk_below hbel lm5 m5
      have lm6 := (Array.getElem?_eq_some_iff.1 m6).1
      have bel6 := below_then bel5 hbel
      clear m5 lm5 hbel bel5 D1 D2 D3
      go_wp2_with (refine wpl_load23 rfl _ rfl rfl m6 hl ?_)
      refine (takeAny m hm n _).mono ?_
      rintro e w7 ⟨rfl, hb7⟩
      go_wp2_with fail
      refine (takeAny _ (ok_take hm n) k _).mono ?_
      rintro e w8 ⟨rfl, hb8⟩
      have hb68 := below_then hb7 hb8
      have m8 := blk_below hb68 lm6 m6
      have lm8 := (Array.getElem?_eq_some_iff.1 m8).1
      have bel8 := below_then bel6 hb68
      have okk := ok_take (ok_take hm n) k
      have hcomm := take_comm hm n k
      obtain ⟨t, ht⟩ : ∃ t, t = takeL (takeL m n) k := ⟨_, rfl⟩
      rw [← ht] at okk hcomm
      rw [← ht]
      have HK := Lib.hid hcomm
      clear hb7 hb8 hb68 m6 lm6 bel6 ht hcomm
      have a8 : ∀ o, (w8.alloc o).heap[w.heap.size]? = some (.cells (mcells m) 23) := fun o => by rw [Below.heap_alloc _ _ _ lm8]; exact m8
      go_wp2_with (first | (refine wpl_store23_new (m := t) rfl _ _ rfl rfl rfl rfl okk.1 ?_) | (refine wpl_load23 rfl _ rfl rfl (a8 _) hl ?_))
      refine (takeAny m hm k _).mono ?_
      rintro e w9 ⟨rfl, hb9⟩
      go_wp2_with fail
      refine (takeAny _ (ok_take hm k) n _).mono ?_
      rintro e w10 ⟨rfl, hb10⟩
      rw [← HK.out]
      have hb810 := below_then hb9 hb10
      have t10 := blk_new hb810
      have l10 := (Array.getElem?_eq_some_iff.1 t10).1
      have m10 := blk_below hb810 (by simp; omega) (a8 _)
      have lm10 := (Array.getElem?_eq_some_iff.1 m10).1
      have bel10 := below_then bel8 (below_new hb810)
      clear hb9 hb10 hb810 a8 m8 lm8 bel8
      go_wp2_with (refine wpl_store23_new (m := t) rfl _ _ rfl rfl rfl rfl okk.1 ?_)
      have t11 : (w10.alloc (.cells (mcells t) 23)).heap[w8.heap.size]? = some (.cells (mcells t) 23) := by rw [Below.heap_alloc _ _ _ l10]; exact t10
      have m11 : (w10.alloc (.cells (mcells t) 23)).heap[w.heap.size]? = some (.cells (mcells m) 23) := by rw [Below.heap_alloc _ _ _ lm10]; exact m10
      refine wp_region_quiet_below (by kernel_rfl) (by kernel_rfl) ?_
      refine wpq_load23 rfl _ rfl rfl t11 okk.1 ?_
      refine wpq_load23 rfl _ rfl rfl (heap_alloc_new _ _) okk.1 ?_
      refine wpq_eql23 (m := t) rfl _ _ _ rfl rfl rfl okk.1 ?_
      quiet_step (fail)
      refine wpq_load23 rfl _ rfl rfl m11 hl ?_
      quiet_step (fail)
      quiet_step ((go_at_call 18; refine Calls.regrown_of (takeAny m hm n _)))
      quiet_step (fail)
      quiet_step ((go_at_call 18; refine Calls.regrown_of (take_again m hm n _)))
      refine wpq_load23 rfl _ rfl rfl m11 hl ?_
      quiet_step (fail)
      quiet_step ((go_at_call 18; refine Calls.regrown_of (takeAny m hm n _)))
      refine wpq_eql23 (m := takeL m n) rfl _ _ _ rfl rfl rfl (ok_take hm n).1 ?_
      quiet_step (fail)
      quiet_step (fail)
      refine wpq_load23 rfl _ rfl rfl m11 hl ?_
      quiet_step (fail)
      quiet_step ((go_at_call 19; refine Calls.regrown_of (giveAny m hm n _)))
      quiet_step (fail)
      quiet_step ((go_at_call 19; refine Calls.regrown_of (give_again m hm n _)))
      refine wpq_load23 rfl _ rfl rfl m11 hl ?_
      quiet_step (fail)
      quiet_step ((go_at_call 19; refine Calls.regrown_of (giveAny m hm n _)))
      refine wpq_eql23 (m := giveL m n) rfl _ _ _ rfl rfl rfl (ok_give hm n).1 ?_
      quiet_step (fail)
      quiet_step (fail)
      quiet_step ((go_at_call 13; refine Calls.regrown_of (lives_any _)))
      quiet_step (fail)
      quiet_step (fail)
      refine wpQuiet_nil ?_
      intro w12 hw12
      have hb12 := near_iff.1 hw12
      clear hw12
      go_wp2
      go_ret
      exact ⟨rfl, below_then bel10 (below_new hb12)⟩
/-! ### THE ROW -/
set_option maxRecDepth 100000 in
theorem bitsTakes_lifted (os : Os) (started : os.Started) (H : Type) (enc : TypeId × Value → H) :
    ReturnsInHanded {} Try.checked os 6 .any (Rows.bitsTakesSpec.pre6 enc Try.prog Try.f6 Rows.bitsTakesRow.domain false) (Rows.bitsTakesSpec.post enc Try.prog Try.f6 false true false false) := by
  refine returnsInHanded_of_change (C := Try.checked) own started (by kernel_rfl) Try.func6
    (ChangeSpec.witness6 (enc := enc) (C := Try.checked) false ⟨#[], #[.agg #[.int .u8 0, .int .u8 0, .int .u8 0, .int .u8 0, .int .u8 0, .int .u8 0, .int .u8 0, .int .u8 0, .int .u8 0, .int .u8 0, .int .u8 0, .int .u8 0, .int .u8 0, .int .u8 0, .int .u8 0, .int .u8 0], .int .i64 0, .int .i64 0], []⟩ 8 (by kernel_rfl) (by kernel_rfl) (by kernel_rfl) (by kernel_rfl)) ?_
  intro W base args ds gs before hval0 hW _ _
  have hval : ∀ (j : Nat) t v, Try.f6.params[j]? = some t → args[j]? = some v → Value.okWide Try.prog W .any base t v := hval0
  have hW' := hW
  obtain ⟨p, q, hA0, hV, rfl, _, _⟩ := hW
  have hA : DataW.TrodAll enc Try.prog W 0 (fun _ => true) true Try.f6.params.toList args.toList ds p := hA0
  rw [Try.params6] at hA hval
  obtain ⟨v0, vs0, d0, ds0, p0, q0, hargs, rfl, rfl, h0, r0⟩ := trodAll_cons hA
  obtain ⟨v1, vs1, d1, ds1, p1, q1, rfl, rfl, rfl, h1, r1⟩ := trodAll_cons r0
  obtain ⟨v2, vs2, d2, ds2, p2, q2, rfl, rfl, rfl, h2, r2⟩ := trodAll_cons r1
  obtain ⟨rfl, rfl, rfl⟩ := trodAll_nil r2
  obtain rfl : args = #[v0, v1, v2] := by cases args; simp_all
  obtain ⟨rfl, rfl⟩ := trodVars_none hV
  have k0 := h0
  have lt0 : ∀ x ∈ p0, x.block < W.heap.size := by obtain ⟨m, hm⟩ := k0; exact DataW.trod_lt m _ _ _ hm
  obtain ⟨m0, ok0, rfl⟩ := open_map (hval 0 23 v0 rfl rfl) h0
  obtain ⟨a1, rfl, rfl, rfl, w1⟩ := open_int Try.underlying3 (hval 1 3 v1 rfl rfl) h1
  obtain ⟨a2, rfl, rfl, rfl, w2⟩ := open_int Try.underlying3 (hval 2 3 v2 rfl rfl) h2
  clear hA0 hval0
  refine (lawTakes m0 ok0 a1 a2 W).mono fun e W' ⟨he, bel⟩ => ?_
  subst he
  exact ⟨_, rfl, _, _, _, [], _, [], hW', trodAll_mk1 (shut_bool Try.underlying4 _), (trodAll_cons_mk (Below.trod laidOut (by kernel_rfl) (of_decide_eq_true (by kernel_rfl)) k0 bel lt0) (trodAll_cons_mk (shut_int Try.underlying3 w1) (trodAll_cons_mk (shut_int Try.underlying3 w2) trodAll_mk0))), rfl, bel.frame _, fun h => by cases h⟩
theorem bitsTakes_over : Rows.bitsTakesRow.holds Try.pinned (OpenSpec.ofChange Rows.bitsTakesSpec) :=
  OpenClaim.holds_of_wide 6 Try.f6 rfl rfl rfl rfl rfl rfl rfl ⟨rfl, rfl, rfl, rfl, rfl⟩ rfl rfl rfl rfl rfl (by kernel_rfl) Try.func6 (by kernel_rfl)
    (of_decide_eq_true (by kernel_rfl)) (by unfold Func.isWrapper; first | (rw [if_pos (by decide +kernel)]; kernel_rfl) | (rw [if_neg (by decide +kernel)]; exact ⟨rfl, rfl⟩))
    (fun os started H enc _ => bitsTakes_lifted os started H enc)
/-- THE STATEMENT. -/
theorem bitsTakes_holds : Rows.BitsTakesSaid := bitsTakes_over
end Go.Proofs.Ytabccjmkgokglaa

/-
  BitsUsed: for every map and every number the law returns true: whether a block is used is told as the document says. No condition.
-/
import Derived.Test.YtabccjmkgokglaaRow
namespace Go.Proofs.Ytabccjmkgokglaa
open Go.ChangeShapes Go.WideShapes Go.ChangeAt Go.RowKit
theorem pick_yes (n : Int) (w : World) (h1 : 1 ≤ n) (h2 : n ≤ 128) :
    Calls Try.prog 11 #[.int .i64 n] w fun e w' => e = .returned (.int .i64 (n - 1)) ∧ w = w' := by
  go_enter Try.func11, Try.ntmps11
  go_wp2
  go_ret
  exact ⟨rfl, rfl⟩
theorem pick_no (n : Int) (w : World) (h : n < 1 ∨ 128 < n) :
    Calls Try.prog 11 #[.int .i64 n] w fun e w' => e = .returned (.int .i64 0) ∧ w = w' := by
  rcases h with h | h
  all_goals
    go_enter Try.func11, Try.ntmps11
    go_wp2
    go_ret
    exact ⟨rfl, rfl⟩
set_option maxHeartbeats 1000000 in
theorem lawUsed (m : List Nat) (hm : Ok m) (n : Int) (w : World) :
    Calls Try.prog 3 #[mval m, .int .i64 n] w fun e w' => e = .returned (.bool true) ∧ Below w.heap.size w w' := by
  have hl := hm.1
  by_cases hin : 1 ≤ n ∧ n ≤ 128
  · obtain ⟨h1, h2⟩ := hin
    go_enter Try.func3, Try.ntmps3
    go_wp2_with (refine wpl_load23 rfl _ rfl rfl (heap_alloc_new _ _) hl ?_)
    refine (truths_map m hm _).mono ?_
    rintro e w1 ⟨g, cap, rfl, hg1, hg2, hc, hb1⟩
    have b1 := blk_new hb1
    have hbel1 := below_new hb1
    have hx := hc (n - 1).toNat (by omega)
    rw [show (⟨g, (n - 1).toNat, none⟩ : Addr) = ⟨g, n.toNat - 1, none⟩ from by congr 1; omega] at hx
    generalize hB : bit m (n - 1).toNat = b at *
    have HB := Lib.hid hB
    clear hB hc hb1
    go_wp2_with fail
    refine (pick_yes n _ h1 h2).mono ?_
    rintro e w1 ⟨rfl, rfl⟩
    go_wp2_with (refine wpl_load23 rfl _ rfl rfl b1 hl ?_)
    refine (used_yes m hm n _ h1 h2).mono ?_
    rintro e w2 ⟨rfl, hb2⟩
    have hbel2 := below_then hbel1 hb2
    rw [HB.out]
    go_wp2_with (go_at_call 13; refine (lives_any _).mono ?_; rintro e w3 ⟨rfl, hb3⟩)
    go_ret
    exact ⟨rfl, below_then hbel2 hb3⟩
  · have hno : n < 1 ∨ 128 < n := by omega
    go_enter Try.func3, Try.ntmps3
    go_wp2_with (refine wpl_load23 rfl _ rfl rfl (heap_alloc_new _ _) hl ?_)
    refine (truths_map m hm _).mono ?_
    rintro e w1 ⟨g, cap, rfl, hg1, hg2, hc, hb1⟩
    have b1 := blk_new hb1
    have hbel1 := below_new hb1
    clear hc hb1
    go_wp2_with fail
    refine (pick_no n _ hno).mono ?_
    rintro e w1 ⟨rfl, rfl⟩
    rcases hno with hno | hno
    all_goals
      go_wp2_with (refine wpl_load23 rfl _ rfl rfl b1 hl ?_)
      refine (used_no m n _ (by omega)).mono ?_
      rintro e w2 ⟨rfl, hb2⟩
      have hbel2 := below_then hbel1 hb2
      go_wp2_with (go_at_call 13; refine (lives_any _).mono ?_; rintro e w3 ⟨rfl, hb3⟩)
      go_ret
      exact ⟨rfl, below_then hbel2 hb3⟩
/-! ### THE ROW -/
set_option maxRecDepth 100000 in
theorem bitsUsed_lifted (os : Os) (started : os.Started) (H : Type) (enc : TypeId × Value → H) :
    ReturnsInHanded {} Try.checked os 3 .any (Rows.bitsUsedSpec.pre6 enc Try.prog Try.f3 Rows.bitsUsedRow.domain false) (Rows.bitsUsedSpec.post enc Try.prog Try.f3 false true false false) := by
  refine returnsInHanded_of_change (C := Try.checked) own started (by kernel_rfl) Try.func3
    (ChangeSpec.witness6 (enc := enc) (C := Try.checked) false ⟨#[], #[.agg #[.int .u8 0, .int .u8 0, .int .u8 0, .int .u8 0, .int .u8 0, .int .u8 0, .int .u8 0, .int .u8 0, .int .u8 0, .int .u8 0, .int .u8 0, .int .u8 0, .int .u8 0, .int .u8 0, .int .u8 0, .int .u8 0], .int .i64 0], []⟩ 8 (by kernel_rfl) (by kernel_rfl) (by kernel_rfl) (by kernel_rfl)) ?_
  intro W base args ds gs before hval0 hW _ _
  have hval : ∀ (j : Nat) t v, Try.f3.params[j]? = some t → args[j]? = some v → Value.okWide Try.prog W .any base t v := hval0
  have hW' := hW
  obtain ⟨p, q, hA0, hV, rfl, _, _⟩ := hW
  have hA : DataW.TrodAll enc Try.prog W 0 (fun _ => true) true Try.f3.params.toList args.toList ds p := hA0
  rw [Try.params3] at hA hval
  obtain ⟨v0, vs0, d0, ds0, p0, q0, hargs, rfl, rfl, h0, r0⟩ := trodAll_cons hA
  obtain ⟨v1, vs1, d1, ds1, p1, q1, rfl, rfl, rfl, h1, r1⟩ := trodAll_cons r0
  obtain ⟨rfl, rfl, rfl⟩ := trodAll_nil r1
  obtain rfl : args = #[v0, v1] := by cases args; simp_all
  obtain ⟨rfl, rfl⟩ := trodVars_none hV
  have k0 := h0
  have lt0 : ∀ x ∈ p0, x.block < W.heap.size := by obtain ⟨m, hm⟩ := k0; exact DataW.trod_lt m _ _ _ hm
  obtain ⟨m0, ok0, rfl⟩ := open_map (hval 0 23 v0 rfl rfl) h0
  obtain ⟨a1, rfl, rfl, rfl, w1⟩ := open_int Try.underlying3 (hval 1 3 v1 rfl rfl) h1
  clear hA0 hval0
  refine (lawUsed m0 ok0 a1 W).mono fun e W' ⟨he, bel⟩ => ?_
  subst he
  exact ⟨_, rfl, _, _, _, [], _, [], hW', trodAll_mk1 (shut_bool Try.underlying4 _), (trodAll_cons_mk (Below.trod laidOut (by kernel_rfl) (of_decide_eq_true (by kernel_rfl)) k0 bel lt0) (trodAll_cons_mk (shut_int Try.underlying3 w1) trodAll_mk0)), rfl, bel.frame _, fun h => by cases h⟩
theorem bitsUsed_over : Rows.bitsUsedRow.holds Try.pinned (OpenSpec.ofChange Rows.bitsUsedSpec) :=
  OpenClaim.holds_of_wide 3 Try.f3 rfl rfl rfl rfl rfl rfl rfl ⟨rfl, rfl, rfl, rfl, rfl⟩ rfl rfl rfl rfl rfl (by kernel_rfl) Try.func3 (by kernel_rfl)
    (of_decide_eq_true (by kernel_rfl)) (by unfold Func.isWrapper; first | (rw [if_pos (by decide +kernel)]; kernel_rfl) | (rw [if_neg (by decide +kernel)]; exact ⟨rfl, rfl⟩))
    (fun os started H enc _ => bitsUsed_lifted os started H enc)
/-- THE STATEMENT. -/
theorem bitsUsed_holds : Rows.BitsUsedSaid := bitsUsed_over
end Go.Proofs.Ytabccjmkgokglaa

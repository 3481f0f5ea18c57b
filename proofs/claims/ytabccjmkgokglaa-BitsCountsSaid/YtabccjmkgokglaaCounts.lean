/-
  BitsCounts: for every map the law returns true: the used blocks are told, rising, and counted. No condition.
-/
import Derived.Test.YtabccjmkgokglaaEq
namespace Go.Proofs.Ytabccjmkgokglaa
open Go.ChangeShapes Go.WideShapes Go.ChangeAt Go.RowKit
theorem popTo_lst (m : List Nat) (n : Nat) : popTo m n = (lst m (8 * n)).length := by
  induction n with
  | zero => simp [popTo, lst]
  | succ n ih =>
    rw [popTo_succ, ih]
    have e : 8 * (n + 1) = 8 * n + 8 := by omega
    rw [e]
    have h : ∀ k, k ≤ 8 → (lst m (8 * n + k)).length = (lst m (8 * n)).length + ((List.range k).filter fun j => decide (m.getD n 0 / 2 ^ j % 2 = 1)).length := by
      intro k
      induction k with
      | zero => intro _; simp
      | succ k ihk =>
        intro hk
        have hb := bit_at m n k (by omega)
        rw [← Nat.add_assoc, List.range_succ, List.filter_append, List.length_append, ← Nat.add_assoc, ← ihk (by omega)]
        by_cases hbit : bit m (8 * n + k) = true
        · rw [lst_yes m _ hbit]
          rw [hbit] at hb
          rw [List.filter_cons, ← hb]
          simp
        · rw [Bool.not_eq_true] at hbit
          rw [lst_no m _ hbit]
          rw [hbit] at hb
          rw [List.filter_cons, ← hb]
          simp
    rw [h 8 (Nat.le_refl _)]
    rfl
set_option maxHeartbeats 2000000 in
theorem lawCounts (m : List Nat) (hm : Ok m) (w : World) :
    Calls Try.prog 9 #[mval m] w fun e w' => e = .returned (.bool true) ∧ Below w.heap.size w w' := by
  have hl := hm.1
  go_enter Try.func9, Try.ntmps9
  go_wp2_with (refine wpl_load23 rfl _ rfl rfl (heap_alloc_new _ _) hl ?_)
  refine (truths_map m hm _).mono ?_
  rintro e w1 ⟨g1, cap1, rfl, _, hg1, hc1, hb1⟩
  have m1 := blk_new hb1
  have lm1 := (Array.getElem?_eq_some_iff.1 m1).1
  have bel1 := below_new hb1
  have HC1 := Lib.hid hc1
  clear hc1 hb1
  go_wp2_with fail
  go_loopw [4, 5] (fun v i wr => ∃ k : Nat, k ≤ 128 ∧ i = .int .i64 k ∧ wr.ownsRow w1.heap.size 3 1 v (lst m k).length (ints (lst m k)) ∧ Below w1.heap.size w1 wr) (fun _ i _ => 128 - (intOf i).toNat)
  case atStart => exact ⟨0, Nat.zero_le _, rfl, World.ownsRow_nil _ _ _ _, Below.refl _ _⟩
  case round =>
    obtain ⟨k, hk, rfl, hown, hbel⟩ := hrel
    have hB := hbel.size
    have hle := lst_le m k
    by_cases hlt : k < 128
    · have hd : decide ((k : Int) < 128) = true := by simp; omega
      have c1 := (hbel.cell (p := ⟨g1, k, none⟩) hg1).trans (HC1.out k hlt)
      by_cases hbit : bit m k = true
      · rw [hbit] at c1
        have HT := Lib.hid (lst_yes m k hbit)
        clear hbit
        go_wp2_with (at_builtin; refine wpl_app 44 3 (.int .i64 0) 8 Try.underlying44 info3 rfl (by decide) rfl _ _ rfl rfl hown hbel hB rfl rfl (by omega) ?_; intro v' w' hown' hbel' hB')
        exact ⟨⟨k + 1, by omega, by go_num, by rw [HT.out]; simpa [ints] using hown', hbel'⟩, by simp [intOf]; omega⟩
      · rw [Bool.not_eq_true] at hbit
        rw [hbit] at c1
        have HT := Lib.hid (lst_no m k hbit)
        clear hbit
        go_wp2
        exact ⟨⟨k + 1, by omega, by go_num, by rw [HT.out]; exact hown, hbel⟩, by simp [intOf]; omega⟩
    · have hk16 : k = 128 := by omega
      subst hk16
      have m2 := blk_below hbel lm1 m1
      have lm2 := (Array.getElem?_eq_some_iff.1 m2).1
      go_wp2_with (refine wpl_load23 rfl _ rfl rfl m2 hl ?_)
      refine (all_any m hm _).mono ?_
      rintro e w3 ⟨v3, rfl, hown3, hb3⟩
      have hown2 := own_below hown hb3
      have m3 := blk_below hb3 lm2 m2
      have lm3 := (Array.getElem?_eq_some_iff.1 m3).1
      have bel3 := below_then (below_then bel1 hbel) hb3
      go_wp2_with fail
      refine (sameInts_yes (lst m 128) (by omega) _ _ v3 u4 _ hown3 hown2).mono ?_
      rintro e w4 ⟨rfl, hb4⟩
      have m4 := blk_below hb4 lm3 m3
      have bel4 := below_then bel3 hb4
      obtain ⟨A, c, rfl, _⟩ := own_shape hown
      have hpop : popTo m 16 = (lst m 128).length := popTo_lst m 16
      have HP := Lib.hid hpop
      clear hpop hown hown2 hown3 hb3 hb4 m1 m2 m3 lm1 lm2 lm3 bel1 bel3 hbel
      have heq : (((lst m 128).length : Int) == ((lst m 128).length : Int)) = true := by simp
      go_wp2_with (refine wpl_load23 rfl _ rfl rfl m4 hl ?_)
      refine (count_any m hm _).mono ?_
      rintro e w5 ⟨rfl, hb5⟩
      rw [HP.out]
      go_wp2_with (go_at_call 13; refine (lives_any _).mono ?_; rintro e w6 ⟨rfl, hb6⟩)
      go_ret
      exact ⟨rfl, below_then (below_then bel4 hb5) hb6⟩
/-! ### THE ROW -/
set_option maxRecDepth 100000 in
theorem bitsCounts_lifted (os : Os) (started : os.Started) (H : Type) (enc : TypeId × Value → H) :
    ReturnsInHanded {} Try.checked os 9 .any (Rows.bitsCountsSpec.pre6 enc Try.prog Try.f9 Rows.bitsCountsRow.domain false) (Rows.bitsCountsSpec.post enc Try.prog Try.f9 false true false false) := by
  refine returnsInHanded_of_change (C := Try.checked) own started (by kernel_rfl) Try.func9
    (ChangeSpec.witness6 (enc := enc) (C := Try.checked) false ⟨#[], #[.agg #[.int .u8 0, .int .u8 0, .int .u8 0, .int .u8 0, .int .u8 0, .int .u8 0, .int .u8 0, .int .u8 0, .int .u8 0, .int .u8 0, .int .u8 0, .int .u8 0, .int .u8 0, .int .u8 0, .int .u8 0, .int .u8 0]], []⟩ 8 (by kernel_rfl) (by kernel_rfl) (by kernel_rfl) (by kernel_rfl)) ?_
  intro W base args ds gs before hval0 hW _ _
  have hval : ∀ (j : Nat) t v, Try.f9.params[j]? = some t → args[j]? = some v → Value.okWide Try.prog W .any base t v := hval0
  have hW' := hW
  obtain ⟨p, q, hA0, hV, rfl, _, _⟩ := hW
  have hA : DataW.TrodAll enc Try.prog W 0 (fun _ => true) true Try.f9.params.toList args.toList ds p := hA0
  rw [Try.params9] at hA hval
  obtain ⟨v0, vs0, d0, ds0, p0, q0, hargs, rfl, rfl, h0, r0⟩ := trodAll_cons hA
  obtain ⟨rfl, rfl, rfl⟩ := trodAll_nil r0
  obtain rfl : args = #[v0] := by cases args; simp_all
  obtain ⟨rfl, rfl⟩ := trodVars_none hV
  have k0 := h0
  have lt0 : ∀ x ∈ p0, x.block < W.heap.size := by obtain ⟨m, hm⟩ := k0; exact DataW.trod_lt m _ _ _ hm
  obtain ⟨m0, ok0, rfl⟩ := open_map (hval 0 23 v0 rfl rfl) h0
  clear hA0 hval0
  refine (lawCounts m0 ok0 W).mono fun e W' ⟨he, bel⟩ => ?_
  subst he
  exact ⟨_, rfl, _, _, _, [], _, [], hW', trodAll_mk1 (shut_bool Try.underlying4 _), (trodAll_cons_mk (Below.trod laidOut (by kernel_rfl) (of_decide_eq_true (by kernel_rfl)) k0 bel lt0) trodAll_mk0), rfl, bel.frame _, fun h => by cases h⟩
theorem bitsCounts_over : Rows.bitsCountsRow.holds Try.pinned (OpenSpec.ofChange Rows.bitsCountsSpec) :=
  OpenClaim.holds_of_wide 9 Try.f9 rfl rfl rfl rfl rfl rfl rfl ⟨rfl, rfl, rfl, rfl, rfl⟩ rfl rfl rfl rfl rfl (by kernel_rfl) Try.func9 (by kernel_rfl)
    (of_decide_eq_true (by kernel_rfl)) (by unfold Func.isWrapper; first | (rw [if_pos (by decide +kernel)]; kernel_rfl) | (rw [if_neg (by decide +kernel)]; exact ⟨rfl, rfl⟩))
    (fun os started H enc _ => bitsCounts_lifted os started H enc)
/-- THE STATEMENT. -/
theorem bitsCounts_holds : Rows.BitsCountsSaid := bitsCounts_over
end Go.Proofs.Ytabccjmkgokglaa

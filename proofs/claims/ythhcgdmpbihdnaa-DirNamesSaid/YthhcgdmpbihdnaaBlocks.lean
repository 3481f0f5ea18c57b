/-
  DirBlocks: for any entries and any block the law returns true: a block is told as just the document's bytes, or refused. No condition.
-/
import Derived.Test.YthhcgdmpbihdnaaRBlock
import Derived.Test.YthhcgdmpbihdnaaSets
namespace Go.Proofs.Ythhcgdmpbihdnaa
open Go.ChangeShapes Go.WideShapes Go.ChangeAt Go.RowKit Go.Deep
theorem made_size {w : World} {v : Value} {f : Nat → Ent} {n : Nat} (_ : Inp w v f n) (i : Nat) : (made f n i).nm.size ≤ 9223372036854775807 := by
  unfold made cutE
  split
  · exact Nat.le_trans (shrt_size _) (by decide)
  · show noName.size ≤ _
    decide
/-- Is block k told? -/
def told (f : Nat → Ent) (k : Int) : Bool := (decide (0 ≤ k) && decide (k < 4)) && okE f (4 * k.toNat) 4
theorem block_yes (f : Nat → Ent) (hf : ∀ i, (f i).nm.size ≤ 9223372036854775807) (k : Int) (h : told f k = true) (w : World) :
    Calls Try.prog 22 #[.agg (tabv f), .int .i64 k] w fun e w' => ∃ v, e = .returned (.tuple #[v, .int .i64 0]) ∧ w'.ownsRow w.heap.size 5 1 v 64 (bl (bts f (4 * k.toNat) 4)) ∧ Below w.heap.size w w' := by
  unfold told at h
  simp only [Bool.and_eq_true, decide_eq_true_eq] at h
  obtain ⟨j, rfl⟩ := Int.eq_ofNat_of_zero_le h.1.1
  refine (block_in f hf j (by omega) w).mono ?_
  rintro e w' (⟨_, r⟩ | ⟨h2, _⟩)
  · exact r
  · rw [show ((j : Int)).toNat = j from rfl, h2] at h
    exact absurd h.2 (by decide)
theorem block_no (f : Nat → Ent) (hf : ∀ i, (f i).nm.size ≤ 9223372036854775807) (k : Int) (h : told f k = false) (w : World) :
    Calls Try.prog 22 #[.agg (tabv f), .int .i64 k] w fun e w' => e = .returned (.tuple #[.slice none 0 0, .int .i64 1]) ∧ Below w.heap.size w w' := by
  by_cases hk : 0 ≤ k ∧ k < 4
  · obtain ⟨j, rfl⟩ := Int.eq_ofNat_of_zero_le hk.1
    unfold told at h
    simp only [hk.1, hk.2, decide_true, Bool.true_and] at h
    refine (block_in f hf j (by omega) w).mono ?_
    rintro e w' (⟨h2, _⟩ | ⟨_, r⟩)
    · rw [show ((j : Int)).toNat = j from rfl, h2] at h
      cases h
    · exact r
  · exact block_out f k hk w
theorem rblock_yes {w : World} {v : Value} {f : Nat → Ent} (hr : Rw w v f 16) (hf : ∀ i, (f i).nm.size ≤ 9223372036854775807) (k : Int) (h : told f k = true) :
    Calls Try.prog 23 #[v, .int .i64 k] w fun e w' => ∃ v, e = .returned (.tuple #[v, .int .i64 0]) ∧ w'.ownsRow w.heap.size 5 1 v 64 (bl (bts f (4 * k.toNat) 4)) ∧ Below w.heap.size w w' := by
  unfold told at h
  simp only [Bool.and_eq_true, decide_eq_true_eq] at h
  obtain ⟨j, rfl⟩ := Int.eq_ofNat_of_zero_le h.1.1
  refine (rblock_in hr hf j (by omega)).mono ?_
  rintro e w' (⟨_, r⟩ | ⟨h2, _⟩)
  · exact r
  · rw [show ((j : Int)).toNat = j from rfl, h2] at h
    exact absurd h.2 (by decide)
theorem rblock_no {w : World} {v : Value} {f : Nat → Ent} (hr : Rw w v f 16) (hf : ∀ i, (f i).nm.size ≤ 9223372036854775807) (k : Int) (h : told f k = false) :
    Calls Try.prog 23 #[v, .int .i64 k] w fun e w' => e = .returned (.tuple #[.slice none 0 0, .int .i64 1]) ∧ Below w.heap.size w w' := by
  by_cases hk : 0 ≤ k ∧ k < 4
  · obtain ⟨j, rfl⟩ := Int.eq_ofNat_of_zero_le hk.1
    unfold told at h
    simp only [hk.1, hk.2, decide_true, Bool.true_and] at h
    refine (rblock_in hr hf j (by omega)).mono ?_
    rintro e w' (⟨h2, _⟩ | ⟨_, r⟩)
    · rw [show ((j : Int)).toNat = j from rfl, h2] at h
      cases h
    · exact r
  · exact rblock_out v k hk w
theorem told_len {f : Nat → Ent} {k : Int} (h : told f k = true) : (bts f (4 * k.toNat) 4).length = 64 := by
  unfold told at h
  simp only [Bool.and_eq_true, decide_eq_true_eq] at h
  rw [bts_len _ _ _ h.2]
set_option maxRecDepth 100000 in
set_option maxHeartbeats 1000000 in
theorem lawBlocks {w : World} {v : Value} {f : Nat → Ent} {n : Nat} (h : Inp w v f n) (k : Int) :
    Calls Try.prog 5 #[v, .int .i64 k] w fun e w' => e = .returned (.bool true) ∧ Below w.heap.size w w' := by
  have hf := made_size h
  have HT := Lib.hid (table_any h)
  generalize made f n = F at *
  clear h
  cases ht : told F k
  · have HB := Lib.hid fun W => block_no F hf k ht W
    have HR := Lib.hid fun W v (h : Rw W v F 16) => rblock_no h hf k ht
    clear ht hf
    go_enter Try.func5, Try.ntmps5
    go_wp2_with fail
    refine (HT.out).mono ?_
    rintro e w1 ⟨v', rfl, hown, hb1⟩
    have hr1 := own_rw hown (by decide)
    have hb2 := heap_alloc_new w1 (.cells (tabv F) 26)
    have HRW := Lib.hid (hr1.below ((Below.refl _ _).alloc (Nat.le_refl _) (.cells (tabv F) 26)))
    have HB1 := Lib.hid (show Below w.heap.size w (w1.alloc (.cells (tabv F) 26)) from hb1.alloc (by have := hb1.size; omega) _)
    clear hb1 hown hr1 HT
    go_wp2_with (first
      | ((with_reducible refine st26n (f := F) ?_ ?_ ?_ ?_); exact rfl; exact rfl; exact rfl)
      | ((with_reducible refine ld26 ?_ hb2 ?_); exact rfl; clear hb2; generalize w1.alloc (.cells (tabv F) 26) = w2 at *))
    refine (HB.out _).mono ?_
    rintro e w3 ⟨rfl, hb3⟩
    have HRW3 := Lib.hid (HRW.out.below hb3)
    have HB3 := Lib.hid (below_then HB1.out hb3)
    clear hb3
    go_wp2_with fail
    refine (HR.out _ _ HRW3.out).mono ?_
    rintro e w4 ⟨rfl, hb4⟩
    have HB4 := Lib.hid (below_then HB3.out hb4)
    clear hb4
    go_wp2_with fail
    refine (sameB_yes (Byt.nil _) (Byt.nil _) (by decide)).mono ?_
    rintro e w5 ⟨rfl, hb5⟩
    have HB5 := Lib.hid (below_then HB4.out hb5)
    clear hb5
    go_wp2_with fail
    refine (lives_any _).mono ?_
    rintro e w6 ⟨rfl, hb6⟩
    have HB6 := Lib.hid (below_then HB5.out hb6)
    clear hb6
    go_wp2
    go_ret
    exact ⟨rfl, HB6.out⟩
  · have HB := Lib.hid fun W => block_yes F hf k ht W
    have HR := Lib.hid fun W v (h : Rw W v F 16) => rblock_yes h hf k ht
    have HLEN := Lib.hid (told_len ht)
    generalize bts F (4 * k.toNat) 4 = l at *
    clear ht hf
    go_enter Try.func5, Try.ntmps5
    go_wp2_with fail
    refine (HT.out).mono ?_
    rintro e w1 ⟨v', rfl, hown, hb1⟩
    have hr1 := own_rw hown (by decide)
    have hb2 := heap_alloc_new w1 (.cells (tabv F) 26)
    have HRW := Lib.hid (hr1.below ((Below.refl _ _).alloc (Nat.le_refl _) (.cells (tabv F) 26)))
    have HB1 := Lib.hid (show Below w.heap.size w (w1.alloc (.cells (tabv F) 26)) from hb1.alloc (by have := hb1.size; omega) _)
    clear hb1 hown hr1 HT
    go_wp2_with (first
      | ((with_reducible refine st26n (f := F) ?_ ?_ ?_ ?_); exact rfl; exact rfl; exact rfl)
      | ((with_reducible refine ld26 ?_ hb2 ?_); exact rfl; clear hb2; generalize w1.alloc (.cells (tabv F) 26) = w2 at *))
    refine (HB.out _).mono ?_
    rintro e w3 ⟨v3, rfl, ho3, hb3⟩
    have HRW3 := Lib.hid (HRW.out.below hb3)
    have HB3 := Lib.hid (below_then HB1.out hb3)
    have HY3 := Lib.hid (byt_own (by rw [HLEN.out]; exact ho3))
    clear hb3 ho3
    go_wp2_with fail
    refine (HR.out _ _ HRW3.out).mono ?_
    rintro e w4 ⟨v4, rfl, ho4, hb4⟩
    have HB4 := Lib.hid (below_then HB3.out hb4)
    have HY3' := Lib.hid (HY3.out.below hb4)
    have HY4 := Lib.hid (byt_own (by rw [HLEN.out]; exact ho4))
    clear hb4 ho4
    go_wp2_with fail
    refine (sameB_yes HY3'.out HY4.out (by rw [HLEN.out]; decide)).mono ?_
    rintro e w5 ⟨rfl, hb5⟩
    have HB5 := Lib.hid (below_then HB4.out hb5)
    clear hb5
    go_wp2_with fail
    refine (lives_any _).mono ?_
    rintro e w6 ⟨rfl, hb6⟩
    have HB6 := Lib.hid (below_then HB5.out hb6)
    clear hb6
    go_wp2
    go_ret
    exact ⟨rfl, HB6.out⟩
/-! ### THE ROW -/
set_option maxRecDepth 100000 in
theorem dirBlocks_lifted (os : Os) (started : os.Started) (H : Type) (enc : TypeId × Value → H) :
    ReturnsInHanded {} Try.checked os 5 .any (Rows.dirBlocksSpec.pre6 enc Try.prog Try.f5 Rows.dirBlocksRow.domain false) (Rows.dirBlocksSpec.post enc Try.prog Try.f5 false true false false) := by
  refine returnsInHanded_of_change (C := Try.checked) own started (by kernel_rfl) Try.func5
    (ChangeSpec.witness6 (enc := enc) (C := Try.checked) false ⟨#[], #[.slice none 0 0, .int .i64 0], []⟩ 8 (by kernel_rfl) (by kernel_rfl) (by kernel_rfl) (by kernel_rfl)) ?_
  intro W base args ds gs before hval0 hW _ _
  have hval : ∀ (j : Nat) t v, Try.f5.params[j]? = some t → args[j]? = some v → Value.okWide Try.prog W .any base t v := hval0
  have hW' := hW
  obtain ⟨p, q, hA0, hV, rfl, _, _⟩ := hW
  have hA : DataW.TrodAll enc Try.prog W 0 (fun _ => true) true Try.f5.params.toList args.toList ds p := hA0
  rw [Try.params5] at hA hval
  obtain ⟨v0, vs0, d0, ds0, p0, q0, hargs, rfl, rfl, h0, r0⟩ := trodAll_cons hA
  obtain ⟨v1, vs1, d1, ds1, p1, q1, rfl, rfl, rfl, h1, r1⟩ := trodAll_cons r0
  obtain ⟨rfl, rfl, rfl⟩ := trodAll_nil r1
  obtain rfl : args = #[v0, v1] := by cases args; simp_all
  obtain ⟨rfl, rfl⟩ := trodVars_none hV
  have k0 := h0
  have lt0 : ∀ x ∈ p0, x.block < W.heap.size := by obtain ⟨m, hm⟩ := k0; exact DataW.trod_lt m _ _ _ hm
  obtain ⟨f0, n0, w0⟩ := open_ents (hval 0 22 v0 rfl rfl) h0
  obtain ⟨a1, rfl, rfl, rfl, w1⟩ := open_int Try.underlying3 (hval 1 3 v1 rfl rfl) h1
  clear hA0 hval0
  refine (lawBlocks w0 a1).mono fun e W' ⟨he, bel⟩ => ?_
  subst he
  exact ⟨_, rfl, _, _, _, [], _, [], hW', trodAll_mk1 (shut_bool Try.underlying4 _), (trodAll_cons_mk (Below.trod laidOut (by kernel_rfl) (of_decide_eq_true (by kernel_rfl)) k0 bel lt0) (trodAll_cons_mk (shut_int Try.underlying3 w1) trodAll_mk0)), rfl, bel.frame _, fun h => by cases h⟩
theorem dirBlocks_over : Rows.dirBlocksRow.holds Try.pinned (OpenSpec.ofChange Rows.dirBlocksSpec) :=
  OpenClaim.holds_of_wide 5 Try.f5 rfl rfl rfl rfl rfl rfl rfl ⟨rfl, rfl, rfl, rfl, rfl⟩ rfl rfl rfl rfl rfl (by kernel_rfl) Try.func5 (by kernel_rfl)
    (of_decide_eq_true (by kernel_rfl)) (by unfold Func.isWrapper; first | (rw [if_pos (by decide +kernel)]; kernel_rfl) | (rw [if_neg (by decide +kernel)]; exact ⟨rfl, rfl⟩))
    (fun os started H enc _ => dirBlocks_lifted os started H enc)
/-- THE STATEMENT. -/
theorem dirBlocks_holds : Rows.DirBlocksSaid := dirBlocks_over
end Go.Proofs.Ythhcgdmpbihdnaa

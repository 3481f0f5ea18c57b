/-
  DirNames: all names are told, rising, and which blocks have entries: any entries (the first 16), any block. No condition.
-/
import Derived.Test.YthhcgdmpbihdnaaRNames
import Derived.Test.YthhcgdmpbihdnaaSameT
import Derived.Test.YthhcgdmpbihdnaaUsedT
import Derived.Test.YthhcgdmpbihdnaaFill
namespace Go.Proofs.Ythhcgdmpbihdnaa
open Go.ChangeShapes Go.WideShapes Go.ChangeAt Go.RowKit Go.Deep
set_option maxRecDepth 100000 in
set_option maxHeartbeats 2000000 in
theorem lawNames {w : World} {v : Value} {f : Nat → Ent} {n : Nat} (h : Inp w v f n) (k : Int) :
    Calls Try.prog 9 #[v, .int .i64 k] w fun e w' => e = .returned (.bool true) ∧ Below w.heap.size w w' := by
  have HT := Lib.hid (table_any h)
  generalize made f n = F at *
  clear h
  have HNM := Lib.hid fun W => names_any F W
  have HRN := Lib.hid fun W v (h : Rw W v F 16) => rnames_any h
  have HSM := Lib.hid fun W B B' v v' h1 h2 => sameT_yes (w := W) (B := B) (B' := B') (v := v) (v' := v') (l := (nms F 16).mergeSort leS) h1 h2 (by rw [List.length_mergeSort]; exact nms_le F 16)
  have HLN : Hid (((nms F 16).mergeSort leS).length = (nms F 16).length) := Lib.hid (List.length_mergeSort _)
  go_enter Try.func9, Try.ntmps9
  go_wp2_with fail
  refine (HT.out).mono ?_
  rintro e w1 ⟨v', rfl, hown, hb1⟩
  have hr1 := own_rw hown (by decide)
  have hb2 := heap_alloc_new w1 (.cells (tabv F) 26)
  have HRW := Lib.hid (hr1.below ((Below.refl _ _).alloc (Nat.le_refl _) (.cells (tabv F) 26)))
  have HB1 := Lib.hid (show Below w.heap.size w (w1.alloc (.cells (tabv F) 26)) from hb1.alloc (by have := hb1.size; omega) _)
  have hsz := hb1.size
  clear hb1 hown hr1 HT
  go_wp2_with (first
    | ((with_reducible refine st26n (f := F) ?_ ?_ ?_ ?_); exact rfl; exact rfl; exact rfl)
    | ((with_reducible refine ld26 ?_ hb2 ?_); exact rfl; generalize w1.alloc (.cells (tabv F) 26) = w2 at *))
  refine (HNM.out _).mono ?_
  rintro e w3 ⟨v3, rfl, ho3, hb3⟩
  have t3 := blk_below hb3 (blk_lt hb2) hb2
  have HRW3 := Lib.hid (HRW.out.below hb3)
  have HB3 := Lib.hid (below_then HB1.out hb3)
  have HO3 := Lib.hid ho3
  clear hb3 ho3 hb2
  go_wp2_with fail
  refine (HRN.out _ _ HRW3.out).mono ?_
  rintro e w4 ⟨v4, rfl, ho4, hb4⟩
  have t4 := blk_below hb4 (blk_lt t3) t3
  have HRW4 := Lib.hid (HRW3.out.below hb4)
  have HB4 := Lib.hid (below_then HB3.out hb4)
  have HO4 := Lib.hid ho4
  have HO34 := Lib.hid (own_below HO3.out hb4)
  clear hb4 ho4 t3
  go_wp2_with fail
  refine (HSM.out _ _ _ _ _ (by rw [HLN.out]; exact HO34.out) HO4.out).mono ?_
  rintro e w5 ⟨rfl, hb5⟩
  have t5 := blk_below hb5 (blk_lt t4) t4
  have HRW5 := Lib.hid (HRW4.out.below hb5)
  have HB5 := Lib.hid (below_then HB4.out hb5)
  have hl5 := blk_lt t5
  clear hb5 t4 HO3 HO34 HO4 HRW HRW3 HRW4 HB1 HB3 HB4 HNM HRN HSM HLN
  by_cases hk : 0 ≤ k ∧ k < 4
  · obtain ⟨j, rfl⟩ := Int.eq_ofNat_of_zero_le hk.1
    have hj4 : j < 4 := by omega
    have hd4 : (j : Int) < 4 := by omega
    clear hk
    obtain ⟨g, cap, cur, rfl, hg, hc1, hc2, hc3, hc4⟩ := HRW5.out
    have HGET := Lib.hid (rw_get hc4)
    have HC := Lib.hid (And.intro hc3 hc4)
    clear hc3 hc4 HRW5
    have HU := Lib.hid fun W => used_in F j hj4 W
    have HLV := Lib.hid lives_any
    go_wp2
    go_loopw [8, 9] (fun u i wr => ∃ m : Nat, m ≤ 4 ∧ i = .int .i64 ((4 * j + m : Nat) : Int) ∧ u = .bool (anyE F (4 * j) m) ∧ Below w5.heap.size w5 wr) (fun _ i _ => 4 * j + 4 - (intOf i).toNat)
    case atStart => exact ⟨0, Nat.zero_le _, by first | rfl | (simp; omega) | simp, rfl, Below.refl _ _⟩
    case round =>
      obtain ⟨m, hm, rfl, rfl, hbel⟩ := hrel
      have HBEL := Lib.hid hbel
      have tg := blk_below hbel (blk_lt hg) hg
      have tt := blk_below hbel hl5 t5
      clear hbel
      by_cases hlt : m < 4
      · have c0 := blk_cell tg ((HGET.out ((4 * j + m) * 2) (by omega)).trans (ecs_nm F 16 (4 * j + m) (by omega)))
        have c1 := blk_cell tg ((HGET.out ((4 * j + m) * 2 + 1) (by omega)).trans (ecs_ino F 16 (4 * j + m) (by omega)))
        have hP : isFree F (4 * j + m) = ((F (4 * j + m)).nm.toList.isEmpty && (F (4 * j + m)).ino == 0) := rfl
        have hA : anyE F (4 * j) (m + 1) = (anyE F (4 * j) m || !isFree F (4 * j + m)) := rfl
        rw [hP] at hA
        have HA := Lib.hid hA
        clear hP hA
        generalize (F (4 * j + m)).nm = s at *
        generalize (F (4 * j + m)).ino = z at *
        have hq : 4 * j + m < 16 := by omega
        have hq2 : ((4 * j + m : Nat) : Int) < 4 * (j : Int) + 4 := by omega
        generalize hN : 4 * j + m = N at *
        generalize anyE F (4 * j) m = u at *
        have hN2 : ((N : Nat) : Int) < 16 := by omega
        cases u
        all_goals
          go_wp2
          all_goals exact ⟨⟨m + 1, by omega, by congr 1; omega, by rw [HA.out]; simp_all, HBEL.out⟩, by simp [intOf]; omega⟩
      · obtain rfl : m = 4 := by omega
        have HB6 := Lib.hid (HB5.out.trans (HBEL.out.mono HB5.out.size))
        generalize anyE F (4 * j) 4 = r at *
        cases r
        all_goals
          go_wp2_with (first
            | ((with_reducible refine ld26w ?_ ?_ tt ?_); exact rfl; exact rfl)
            | (go_at_call 31; refine (HU.out _).mono ?_; rintro e w7 ⟨rfl, hb7⟩; have HB7 := Lib.hid (below_then HB6.out hb7); clear hb7)
            | (go_at_call 16; refine (HLV.out _).mono ?_; rintro e w8 ⟨rfl, hb8⟩; have HB8 := Lib.hid (below_then HB7.out hb8); clear hb8))
          go_ret
          exact ⟨rfl, HB8.out⟩
  · have HU := Lib.hid fun W => used_out F k hk W
    have HLV := Lib.hid lives_any
    have hor : k < 0 ∨ (0 ≤ k ∧ 4 ≤ k) := by omega
    clear hk
    rcases hor with hk1 | ⟨hk1, hk2⟩
    all_goals
      go_wp2_with (first
        | ((with_reducible refine ld26w ?_ ?_ t5 ?_); exact rfl; exact rfl)
        | (go_at_call 31; refine (HU.out _).mono ?_; rintro e w6 ⟨rfl, hb6⟩; have HB6 := Lib.hid (below_then HB5.out hb6); clear hb6)
        | (go_at_call 16; refine (HLV.out _).mono ?_; rintro e w7 ⟨rfl, hb7⟩; have HB7 := Lib.hid (below_then HB6.out hb7); clear hb7))
      go_ret
      exact ⟨rfl, HB7.out⟩
/-! ### THE ROW -/
set_option maxRecDepth 100000 in
theorem dirNames_lifted (os : Os) (started : os.Started) (H : Type) (enc : TypeId × Value → H) :
    ReturnsInHanded {} Try.checked os 9 .any (Rows.dirNamesSpec.pre6 enc Try.prog Try.f9 Rows.dirNamesRow.domain false) (Rows.dirNamesSpec.post enc Try.prog Try.f9 false true false false) := by
  refine returnsInHanded_of_change (C := Try.checked) own started (by kernel_rfl) Try.func9
    (ChangeSpec.witness6 (enc := enc) (C := Try.checked) false ⟨#[], #[.slice none 0 0, .int .i64 0], []⟩ 8 (by kernel_rfl) (by kernel_rfl) (by kernel_rfl) (by kernel_rfl)) ?_
  intro W base args ds gs before hval0 hW _ _
  have hval : ∀ (j : Nat) t v, Try.f9.params[j]? = some t → args[j]? = some v → Value.okWide Try.prog W .any base t v := hval0
  have hW' := hW
  obtain ⟨p, q, hA0, hV, rfl, _, _⟩ := hW
  have hA : DataW.TrodAll enc Try.prog W 0 (fun _ => true) true Try.f9.params.toList args.toList ds p := hA0
  rw [Try.params9] at hA hval
  obtain ⟨v0, vs0, d0, ds0, p0, q0, hargs, rfl, rfl, h0, r0⟩ := trodAll_cons hA
  obtain ⟨v1, vs1, d1, ds1, p1, q1, rfl, rfl, rfl, h1, r1⟩ := trodAll_cons r0
  obtain ⟨rfl, rfl, rfl⟩ := trodAll_nil r1
  obtain rfl : args = #[v0, v1] := by cases args; simp_all
  obtain ⟨rfl, rfl⟩ := trodVars_none hV
  have k0 := h0
  have lt0 : ∀ x ∈ p0, x.block < W.heap.size := by obtain ⟨m, hm⟩ := k0; exact DataW.trod_lt m _ _ _ hm
  obtain ⟨f0, n0, w0⟩ := open_ents (hval 0 22 v0 rfl rfl) h0
  obtain ⟨a1, rfl, rfl, rfl, w1⟩ := open_int Try.underlying3 (hval 1 3 v1 rfl rfl) h1
  clear hA0 hval0
  refine (lawNames w0 a1).mono fun e W' ⟨he, bel⟩ => ?_
  subst he
  exact ⟨_, rfl, _, _, _, [], _, [], hW', trodAll_mk1 (shut_bool Try.underlying4 _), (trodAll_cons_mk (Below.trod laidOut (by kernel_rfl) (of_decide_eq_true (by kernel_rfl)) k0 bel lt0) (trodAll_cons_mk (shut_int Try.underlying3 w1) trodAll_mk0)), rfl, bel.frame _, fun h => by cases h⟩
theorem dirNames_over : Rows.dirNamesRow.holds Try.pinned (OpenSpec.ofChange Rows.dirNamesSpec) :=
  OpenClaim.holds_of_wide 9 Try.f9 rfl rfl rfl rfl rfl rfl rfl ⟨rfl, rfl, rfl, rfl, rfl⟩ rfl rfl rfl rfl rfl (by kernel_rfl) Try.func9 (by kernel_rfl)
    (of_decide_eq_true (by kernel_rfl)) (by unfold Func.isWrapper; first | (rw [if_pos (by decide +kernel)]; kernel_rfl) | (rw [if_neg (by decide +kernel)]; exact ⟨rfl, rfl⟩))
    (fun os started H enc _ => dirNames_lifted os started H enc)
/-- THE STATEMENT. -/
theorem dirNames_holds : Rows.DirNamesSaid := dirNames_over
end Go.Proofs.Ythhcgdmpbihdnaa

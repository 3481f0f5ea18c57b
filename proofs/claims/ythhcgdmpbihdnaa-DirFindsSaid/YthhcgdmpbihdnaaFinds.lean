/-
  DirFinds: for any entries and any text the law returns true: where a name stands, and where it may, is told as the document says. No condition.
-/
import Derived.Test.YthhcgdmpbihdnaaArgs
namespace Go.Proofs.Ythhcgdmpbihdnaa
open Go.ChangeShapes Go.WideShapes Go.ChangeAt Go.RowKit Go.Deep
set_option maxRecDepth 100000 in
set_option maxHeartbeats 2000000 in
theorem lawFinds {w : World} {v : Value} {f : Nat → Ent} {n : Nat} (h : Inp w v f n) (s : ByteArray) (hs : s.size ≤ maxLen) :
    Calls Try.prog 3 #[v, .string s] w fun e w' => e = .returned (.bool true) ∧ Below w.heap.size w w' := by
  unfold maxLen at hs
  have hss := Nat.le_trans (shrt_size s) (show 20 ≤ 9223372036854775807 by decide)
  have HT := Lib.hid (table_any h)
  have HS := Lib.hid fun W => short_any s hs W
  generalize shrt s = t at *
  clear h
  generalize made f n = F at *
  have HF := Lib.hid fun W => find_any F t hss W
  have HP := Lib.hid fun W => place_any F t hss W
  go_enter Try.func3, Try.ntmps3
  go_wp2_with fail
  refine (HT.out).mono ?_
  rintro e w1 ⟨v', rfl, hown, hb1⟩
  have hr1 := own_rw hown (by decide)
  have hr2 : ∀ o, Rw (w1.alloc o) v' F 16 := fun o => hr1.below ((Below.refl _ _).alloc (Nat.le_refl _) o)
  have HR := Lib.hid hr2
  have HB1 := Lib.hid hb1
  clear hb1 hown hr1 hr2 HT
  go_wp2_with (first
    | (refine wpl_store26_new rfl _ _ rfl rfl rfl rfl ?_)
    | (refine wpl_load26 rfl _ rfl rfl (heap_alloc_new _ _) ?_)
    | (go_at_call 11; refine (HS.out _).mono ?_; rintro e w2 ⟨rfl, rfl⟩))
  refine (HF.out _).mono ?_
  rintro e w3 ⟨rfl, hb3⟩
  have b3 := blk_new hb3
  have HR3 := Lib.hid ((HR.out _).below hb3)
  have HB3 := Lib.hid (below_then HB1.out (below_new hb3))
  clear hb3
  go_wp2_with fail
  refine (rfind_any HR3.out t hss).mono ?_
  rintro e w4 ⟨rfl, hb4⟩
  have b4 := blk_below hb4 (blk_lt b3) b3
  have HR4 := Lib.hid (HR3.out.below hb4)
  have HB4 := Lib.hid (below_then HB3.out hb4)
  have h1 := fnd_bd (isNm F t) (hash t)
  have h2 : find F t = fnd (isNm F t) (hash t) := rfl
  rw [← h2] at h1
  generalize find F t = r at *
  clear hb4 b3 h2
  go_wp2_with (refine wpl_load26 rfl _ rfl rfl b4 ?_)
  refine (HP.out _).mono ?_
  rintro e w5 ⟨rfl, hb5⟩
  have HR5 := Lib.hid (HR4.out.below hb5)
  have HB5 := Lib.hid (below_then HB4.out hb5)
  clear hb5 b4
  go_wp2_with fail
  refine (rplace_any HR5.out t hss).mono ?_
  rintro e w6 ⟨rfl, hb6⟩
  have HB6 := Lib.hid (below_then HB5.out hb6)
  clear hb6
  generalize place F t = q at *
  go_wp2_with fail
  refine (lives_any _).mono ?_
  rintro e w7 ⟨rfl, hb7⟩
  have HB7 := Lib.hid (below_then HB6.out hb7)
  clear hb7
  go_wp2_with fail
  go_ret
  exact ⟨rfl, HB7.out⟩
/-! ### THE ROW -/
set_option maxRecDepth 100000 in
theorem dirFinds_lifted (os : Os) (started : os.Started) (H : Type) (enc : TypeId × Value → H) :
    ReturnsInHanded {} Try.checked os 3 .any (Rows.dirFindsSpec.pre6 enc Try.prog Try.f3 Rows.dirFindsRow.domain false) (Rows.dirFindsSpec.post enc Try.prog Try.f3 false true false false) := by
  refine returnsInHanded_of_change (C := Try.checked) own started (by kernel_rfl) Try.func3
    (ChangeSpec.witness6 (enc := enc) (C := Try.checked) false ⟨#[], #[.slice none 0 0, .string { data := #[] }], []⟩ 8 (by kernel_rfl) (by kernel_rfl) (by kernel_rfl) (by kernel_rfl)) ?_
  intro W base args ds gs before hval0 hW _ _
  have hval : ∀ (j : Nat) t v, Try.f3.params[j]? = some t → args[j]? = some v → Value.okWide Try.prog W .any base t v := hval0
  have hW' := hW
  obtain ⟨p, q, hA0, hV, rfl, _, _⟩ := hW
  have hA : DataW.TrodAll enc Try.prog W 0 (fun _ => true) true Try.f3.params.toList args.toList ds p := hA0
  rw [Try.params3] at hA hval
  obtain ⟨v0, vs0, d0, ds0, p0, q0, hargs, rfl, rfl, h0, r0⟩ := trodAll_cons hA
  obtain ⟨v1, vs1, d1, ds1, p1, q1, rfl, rfl, rfl, h1, r1⟩ := trodAll_cons r0
  obtain ⟨rfl, rfl, rfl⟩ := trodAll_nil r1
  obtain rfl : args = #[v0, v1] := by cases args; simp_all
  obtain ⟨rfl, rfl⟩ := trodVars_none hV
  have k0 := h0
  have lt0 : ∀ x ∈ p0, x.block < W.heap.size := by obtain ⟨m, hm⟩ := k0; exact DataW.trod_lt m _ _ _ hm
  obtain ⟨f0, n0, w0⟩ := open_ents (hval 0 22 v0 rfl rfl) h0
  have k1 := h1
  have lt1 : ∀ x ∈ p1, x.block < W.heap.size := by obtain ⟨m, hm⟩ := k1; exact DataW.trod_lt m _ _ _ hm
  obtain ⟨s1, rfl, _, _, w1⟩ := Go.ChangeMaps.open_string Try.underlying9 (hval 1 9 v1 rfl rfl) h1
  clear hA0 hval0
  refine (lawFinds w0 s1 w1).mono fun e W' ⟨he, bel⟩ => ?_
  subst he
  exact ⟨_, rfl, _, _, _, [], _, [], hW', trodAll_mk1 (shut_bool Try.underlying4 _), (trodAll_cons_mk (Below.trod laidOut (by kernel_rfl) (of_decide_eq_true (by kernel_rfl)) k0 bel lt0) (trodAll_cons_mk (Below.trod laidOut (by kernel_rfl) (of_decide_eq_true (by kernel_rfl)) k1 bel lt1) trodAll_mk0)), rfl, bel.frame _, fun h => by cases h⟩
theorem dirFinds_over : Rows.dirFindsRow.holds Try.pinned (OpenSpec.ofChange Rows.dirFindsSpec) :=
  OpenClaim.holds_of_wide 3 Try.f3 rfl rfl rfl rfl rfl rfl rfl ⟨rfl, rfl, rfl, rfl, rfl⟩ rfl rfl rfl rfl rfl (by kernel_rfl) Try.func3 (by kernel_rfl)
    (of_decide_eq_true (by kernel_rfl)) (by unfold Func.isWrapper; first | (rw [if_pos (by decide +kernel)]; kernel_rfl) | (rw [if_neg (by decide +kernel)]; exact ⟨rfl, rfl⟩))
    (fun os started H enc _ => dirFinds_lifted os started H enc)
/-- THE STATEMENT. -/
theorem dirFinds_holds : Rows.DirFindsSaid := dirFinds_over
end Go.Proofs.Ythhcgdmpbihdnaa

/-
  BitsFirst: for every map and every number from which it is sought, the law returns true: the first block that is not used is the document's. No condition.
-/
import Derived.Test.YtabccjmkgokglaaRow
namespace Go.Proofs.Ytabccjmkgokglaa
open Go.ChangeShapes Go.WideShapes Go.ChangeAt Go.RowKit
/-- What the law's own loop has found among the places k + 1 .. 127: the least of them, or 0. -/
def IsLow (m : List Nat) (lo : Int) (k : Int) (r : Int) : Prop :=
  (lo ≤ r ∧ k + 1 ≤ r - 1 ∧ r ≤ 128 ∧ bit m (r - 1).toNat = false ∧ ∀ j : Int, k + 1 ≤ j → lo ≤ j + 1 → j + 1 < r → bit m j.toNat = true) ∨
  (r = 0 ∧ ∀ j : Int, k + 1 ≤ j → lo ≤ j + 1 → j ≤ 127 → bit m j.toNat = true)
theorem IsLow.done {m : List Nat} {lo r : Int} (h : IsLow m lo (-1) r) : IsFirst m lo r := by
  rcases h with ⟨h1, h2, h3, h4, h5⟩ | ⟨h1, h5⟩
  · refine .inl ⟨h1, by omega, h3, h4, fun j k1 k2 k3 => ?_⟩
    exact h5 (j - 1) (by omega) (by omega) (by omega)
  · refine .inr ⟨h1, fun j k1 k2 k3 => ?_⟩
    exact h5 (j - 1) (by omega) (by omega) (by omega)
theorem IsLow.hit {m : List Nat} {lo k r : Int} (h0 : 0 ≤ k) (h1 : k ≤ 127) (hb : bit m k.toNat = false) (hlo : lo ≤ k + 1) (_ : IsLow m lo k r) : IsLow m lo (k - 1) (k + 1) :=
  .inl ⟨hlo, by omega, by omega, by rw [show k + 1 - 1 = k from by omega]; exact hb, fun j k1 k2 k3 => by omega⟩
theorem IsLow.used {m : List Nat} {lo k r : Int} (hb : bit m k.toNat = true) (h : IsLow m lo k r) : IsLow m lo (k - 1) r := by
  rcases h with ⟨h1, h2, h3, h4, h5⟩ | ⟨h1, h5⟩
  · refine .inl ⟨h1, by omega, h3, h4, fun j k1 k2 k3 => ?_⟩
    by_cases e : j = k
    · rw [e]; exact hb
    · exact h5 j (by omega) k2 k3
  · refine .inr ⟨h1, fun j k1 k2 k3 => ?_⟩
    by_cases e : j = k
    · rw [e]; exact hb
    · exact h5 j (by omega) k2 k3
theorem IsLow.below {m : List Nat} {lo k r : Int} (hlo : k + 1 < lo) (h : IsLow m lo k r) : IsLow m lo (k - 1) r := by
  rcases h with ⟨h1, h2, h3, h4, h5⟩ | ⟨h1, h5⟩
  · exact .inl ⟨h1, by omega, h3, h4, fun j k1 k2 k3 => h5 j (by omega) k2 k3⟩
  · exact .inr ⟨h1, fun j k1 k2 k3 => h5 j (by omega) k2 k3⟩
set_option maxHeartbeats 1000000 in
theorem lawFirst (m : List Nat) (hm : Ok m) (lo : Int) (w : World) (wlo : (Lit.int .i64 lo).wf = true) :
    Calls Try.prog 4 #[mval m, .int .i64 lo] w fun e w' => e = .returned (.bool true) ∧ Below w.heap.size w w' := by
  have hl := hm.1
  have hlo := bounds_i64 wlo
  go_enter Try.func4, Try.ntmps4
  go_wp2_with (refine wpl_load23 rfl _ rfl rfl (heap_alloc_new _ _) hl ?_)
  refine (truths_map m hm _).mono ?_
  rintro e w1 ⟨g, cap, rfl, hg1, hg2, hc, hb1⟩
  have b1 := blk_new hb1
  have hbel1 := below_new hb1
  have HC := Lib.hid hc
  clear hc hb1
  go_wp2_with fail
  go_loop [6, 7] (fun r i => ∃ k r' : Int, -1 ≤ k ∧ k ≤ 127 ∧ i = .int .i64 k ∧ r = .int .i64 r' ∧ IsLow m lo k r') (fun _ i => (intOf i + 1).toNat)
  case atStart => exact ⟨127, 0, by omega, by omega, rfl, rfl, .inr ⟨rfl, fun j h1 h2 h3 => by omega⟩⟩
  case round =>
    obtain ⟨k, r, hk1, hk2, rfl, rfl, hlow⟩ := hrel
    have HL := Lib.hid hlow
    clear hlow
    by_cases h0 : 0 ≤ k
    · have hd : decide (0 ≤ k) = true := by simpa using h0
      have hx := HC.out k.toNat (by omega)
      cases hB : bit m k.toNat
      · rw [hB] at hx
        have HB := Lib.hid hB
        clear hB
        by_cases hle : lo ≤ k + 1
        · go_wp2
          exact ⟨⟨k - 1, k + 1, by omega, by omega, rfl, rfl, HL.out.hit h0 hk2 HB.out hle⟩, by simp [intOf]; omega⟩
        · go_wp2
          exact ⟨⟨k - 1, r, by omega, by omega, rfl, rfl, HL.out.below (by omega)⟩, by simp [intOf]; omega⟩
      · rw [hB] at hx
        have HB := Lib.hid hB
        clear hB
        go_wp2
        exact ⟨⟨k - 1, r, by omega, by omega, rfl, rfl, HL.out.used HB.out⟩, by simp [intOf]; omega⟩
    · have hk : k = -1 := by omega
      subst hk
      go_wp2_with (refine wpl_load23 rfl _ rfl rfl b1 hl ?_)
      refine (first_any m hm lo _ hlo.2).mono ?_
      rintro e w2 ⟨s, hs, rfl, hb2⟩
      obtain rfl : s = r := hs.same HL.out.done
      have heq : (s == s) = true := by simp
      go_wp2_with (go_at_call 13; refine (lives_any _).mono ?_; rintro e w3 ⟨rfl, hb3⟩)
      go_ret
      exact ⟨rfl, below_then (below_then hbel1 hb2) hb3⟩
/-! ### THE ROW -/
set_option maxRecDepth 100000 in
theorem bitsFirst_lifted (os : Os) (started : os.Started) (H : Type) (enc : TypeId × Value → H) :
    ReturnsInHanded {} Try.checked os 4 .any (Rows.bitsFirstSpec.pre6 enc Try.prog Try.f4 Rows.bitsFirstRow.domain false) (Rows.bitsFirstSpec.post enc Try.prog Try.f4 false true false false) := by
  refine returnsInHanded_of_change (C := Try.checked) own started (by kernel_rfl) Try.func4
    (ChangeSpec.witness6 (enc := enc) (C := Try.checked) false ⟨#[], #[.agg #[.int .u8 0, .int .u8 0, .int .u8 0, .int .u8 0, .int .u8 0, .int .u8 0, .int .u8 0, .int .u8 0, .int .u8 0, .int .u8 0, .int .u8 0, .int .u8 0, .int .u8 0, .int .u8 0, .int .u8 0, .int .u8 0], .int .i64 0], []⟩ 8 (by kernel_rfl) (by kernel_rfl) (by kernel_rfl) (by kernel_rfl)) ?_
  intro W base args ds gs before hval0 hW _ _
  have hval : ∀ (j : Nat) t v, Try.f4.params[j]? = some t → args[j]? = some v → Value.okWide Try.prog W .any base t v := hval0
  have hW' := hW
  obtain ⟨p, q, hA0, hV, rfl, _, _⟩ := hW
  have hA : DataW.TrodAll enc Try.prog W 0 (fun _ => true) true Try.f4.params.toList args.toList ds p := hA0
  rw [Try.params4] at hA hval
  obtain ⟨v0, vs0, d0, ds0, p0, q0, hargs, rfl, rfl, h0, r0⟩ := trodAll_cons hA
  obtain ⟨v1, vs1, d1, ds1, p1, q1, rfl, rfl, rfl, h1, r1⟩ := trodAll_cons r0
  obtain ⟨rfl, rfl, rfl⟩ := trodAll_nil r1
  obtain rfl : args = #[v0, v1] := by cases args; simp_all
  obtain ⟨rfl, rfl⟩ := trodVars_none hV
  have k0 := h0
  have lt0 : ∀ x ∈ p0, x.block < W.heap.size := by obtain ⟨m, hm⟩ := k0; exact DataW.trod_lt m _ _ _ hm
  obtain ⟨m0, ok0, rfl⟩ := open_map (hval 0 23 v0 rfl rfl) h0
  obtain ⟨a1, rfl, rfl, rfl, w1⟩ := open_int Try.underlying3 (hval 1 3 v1 rfl rfl) h1
  clear hA0 hval0
  refine (lawFirst m0 ok0 a1 W w1).mono fun e W' ⟨he, bel⟩ => ?_
  subst he
  exact ⟨_, rfl, _, _, _, [], _, [], hW', trodAll_mk1 (shut_bool Try.underlying4 _), (trodAll_cons_mk (Below.trod laidOut (by kernel_rfl) (of_decide_eq_true (by kernel_rfl)) k0 bel lt0) (trodAll_cons_mk (shut_int Try.underlying3 w1) trodAll_mk0)), rfl, bel.frame _, fun h => by cases h⟩
theorem bitsFirst_over : Rows.bitsFirstRow.holds Try.pinned (OpenSpec.ofChange Rows.bitsFirstSpec) :=
  OpenClaim.holds_of_wide 4 Try.f4 rfl rfl rfl rfl rfl rfl rfl ⟨rfl, rfl, rfl, rfl, rfl⟩ rfl rfl rfl rfl rfl (by kernel_rfl) Try.func4 (by kernel_rfl)
    (of_decide_eq_true (by kernel_rfl)) (by unfold Func.isWrapper; first | (rw [if_pos (by decide +kernel)]; kernel_rfl) | (rw [if_neg (by decide +kernel)]; exact ⟨rfl, rfl⟩))
    (fun os started H enc _ => bitsFirst_lifted os started H enc)
/-- THE STATEMENT. -/
theorem bitsFirst_holds : Rows.BitsFirstSaid := bitsFirst_over
end Go.Proofs.Ytabccjmkgokglaa

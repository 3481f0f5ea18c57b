/-
  BitsRound: for every map the law returns true: what is told as bytes is read as the same map, and what is told is new. No condition.
-/
import Derived.Test.YtabccjmkgokglaaQuiet
namespace Go.Proofs.Ytabccjmkgokglaa
open Go.ChangeShapes Go.WideShapes Go.ChangeAt Go.RowKit
theorem own_blk {w : World} {B : Nat} {e : TypeId} {g n cap : Nat} {xs : List Value} (h : w.ownsRow B e 1 (.slice (some ⟨g, 0, none⟩) n cap) n xs) :
    ∃ cur, w.heap[g]? = some (.cells cur e (0, 0)) ∧ n ≤ cur.size := by
  rcases h.2 with ⟨h0, _⟩ | ⟨g', cap', cur, hv, hb, hg, hc, h5, h6, h7⟩
  · cases h0
  · injection hv with h1 h2 h3
    injection h1 with h1
    injection h1 with h1
    subst h1
    exact ⟨cur, hg, by omega⟩
theorem only_trans {a b c : World} {row : Option Nat} (h : a.grownBy b row) (k : b.grownBy c row) : a.grownBy c row :=
  ⟨k.os.trans h.os, k.tape.trans h.tape, k.output.trans h.output, Nat.le_trans h.size k.size, fun i hi hn => (k.block i (Nat.lt_of_lt_of_le hi h.size) hn).trans (h.block i hi hn)⟩
theorem only_setCell {a w : World} {g i : Nat} (h : a.grownBy w (some g)) (u : Value) : a.grownBy (w.setCell ⟨g, i, none⟩ u) (some g) :=
  only_trans h ⟨rfl, rfl, rfl, by simp [World.setCell], fun k _ hn => Below.heap_setCell _ _ _ _ (by simpa using hn)⟩
theorem below_only {B : Nat} {a b c : World} {g : Nat} (h : Below B a b) (k : b.grownBy c (some g)) (hB : B ≤ b.heap.size) (hg : B ≤ g) : Below B a c :=
  h.grown k hB (fun _ e => by cases e; exact hg)
set_option maxHeartbeats 4000000 in
theorem lawRound (m : List Nat) (hm : Ok m) (w : World) :
    Calls Try.prog 8 #[mval m] w fun e w' => e = .returned (.bool true) ∧ Below w.heap.size w w' := by
  have hl := hm.1
  go_enter Try.func8, Try.ntmps8
  go_wp2_with (refine wpl_load23 rfl _ rfl rfl (heap_alloc_new _ _) hl ?_)
  refine (bytes_any m hm _).mono ?_
  rintro e w1 ⟨g, cap, rfl, hown, hb1⟩
  have m1 := blk_new hb1
  have lm1 := (Array.getElem?_eq_some_iff.1 m1).1
  have bel1 := below_new hb1
  obtain ⟨cur, hgb, hcs⟩ := own_blk hown
  obtain ⟨_, _, hv, hge, hg1, hcap, hcell⟩ := own_at hown (by omega)
  obtain ⟨rfl, rfl⟩ : g = _ ∧ cap = _ := by simpa using hv
  have hge' : w.heap.size + 1 ≤ g := by simpa using hge
  have HX := Lib.hid (show ∀ j, j < 16 → w1.cell? ⟨g, 0 + j, none⟩ = some (.int .u8 (m.getD j 0 : Nat)) from fun j hj => by rw [Nat.zero_add, hcell j hj, bb_get m 16 j hj])
  clear hb1 hv hcell hown hge
  go_wp2_with fail
  refine (read_map m hl g 0 16 cap (by omega) hcap (by omega) _ hg1 HX.out).mono ?_
  rintro e w2 ⟨rfl, hb2⟩
  have m2 := blk_below hb2 lm1 m1
  have lm2 := (Array.getElem?_eq_some_iff.1 m2).1
  have bel2 := below_then bel1 hb2
  have hg2 := Nat.lt_of_lt_of_le hg1 hb2.size
  have gb2 := blk_below hb2 hg1 hgb
  have HX2 := Lib.hid (show ∀ j, j < 16 → (w2.alloc (.cells (mcells m) 23)).cell? ⟨g, 0 + j, none⟩ = some (.int .u8 (m.getD j 0 : Nat)) from fun j hj => by
    rw [World.cell?_alloc_past _ _ _ hg2, hb2.cell (p := ⟨g, 0 + j, none⟩) hg1]; exact HX.out j hj)
  have m3 : (w2.alloc (.cells (mcells m) 23)).heap[w.heap.size]? = some (.cells (mcells m) 23) := by rw [Below.heap_alloc _ _ _ lm2]; exact m2
  clear hb2 m1 lm1 bel1 HX
  go_wp2_with (first
    | (refine wpl_store23_new (m := m) rfl _ _ rfl rfl rfl rfl hl ?_)
    | (refine wpl_load23 rfl _ rfl rfl m3 hl ?_))
  refine (truths_map m hm _).mono ?_
  rintro e w4 ⟨g2, cap2, rfl, _, hgt, hct, hb4⟩
  have k4 := blk_new hb4
  have lk4 := (Array.getElem?_eq_some_iff.1 k4).1
  have m4 := blk_below hb4 (by simp; omega) m3
  have lm4 := (Array.getElem?_eq_some_iff.1 m4).1
  have bel4 := below_then bel2 (below_new hb4)
  have hg4 := Nat.lt_of_lt_of_le hg2 (below_new hb4).size
  have gb4 := blk_below (below_new hb4) hg2 gb2
  have HX4 := Lib.hid (show ∀ j, j < 16 → w4.cell? ⟨g, 0 + j, none⟩ = some (.int .u8 (m.getD j 0 : Nat)) from fun j hj => by
    rw [hb4.cell (p := ⟨g, 0 + j, none⟩) (by simp; omega)]; exact HX2.out j hj)
  have HT := Lib.hid hct
  clear hb4 m3 m2 lm2 bel2 HX2 hct hgb gb2
  go_wp2_with fail
  refine (refBytes_any m hm g2 cap2 _ HT.out hgt).mono ?_
  rintro e w5 ⟨v5, rfl, hown5, hb5⟩
  obtain ⟨g5, cap5, rfl, hge5, hg5, _, hcell5⟩ := own_at hown5 (by omega)
  have hg45 := Nat.lt_of_lt_of_le hg4 hb5.size
  have gb5 := blk_below hb5 hg4 gb4
  have k5 := blk_below hb5 lk4 k4
  have lk5 := (Array.getElem?_eq_some_iff.1 k5).1
  have m5 := blk_below hb5 lm4 m4
  have lm5 := (Array.getElem?_eq_some_iff.1 m5).1
  have bel5 := below_then bel4 hb5
  go_wp2_with fail
  refine (same_yes 16 g 0 cap g5 0 cap5 (fun j => (m.getD j 0 : Nat)) (by omega) _ hg45 hg5 (fun j hj => by
    rw [hb5.cell (p := ⟨g, 0 + j, none⟩) hg4]; exact HX4.out j hj) (fun j hj => by rw [Nat.zero_add, hcell5 j hj, bb_get m 16 j hj])).mono ?_
  rintro e w6 ⟨rfl, hb6⟩
  have hg6 := Nat.lt_of_lt_of_le hg45 hb6.size
  have gb6 := blk_below hb6 hg45 gb5
  have k6 := blk_below hb6 lk5 k5
  have lk6 := (Array.getElem?_eq_some_iff.1 k6).1
  have m6 := blk_below hb6 lm5 m5
  have lm6 := (Array.getElem?_eq_some_iff.1 m6).1
  have bel6 := below_then bel5 hb6
  clear hb5 hb6 m4 m5 lm4 lm5 bel4 bel5 k4 k5 lk4 lk5 gb4 gb5 hg4 hg45 hg5 hown5 hcell5 HX4 HT hgt hge5
  go_wp2_with fail
  go_loopw [7] (fun i wr => ∃ k : Nat, k ≤ 16 ∧ i = .int .i64 k ∧ w6.grownBy wr (some g) ∧ ∃ cs, wr.heap[g]? = some (.cells cs 5 (0, 0)) ∧ 16 ≤ cs.size) (fun i _ => 16 - (intOf i).toNat)
  case atStart => exact ⟨0, Nat.zero_le _, rfl, World.grownBy.refl _ _, cur, gb6, hcs⟩
  case round =>
    obtain ⟨k, hk, rfl, hgr, cs, hcb, hcz⟩ := hrel
    by_cases hlt : k < 16
    · have hd : decide ((k : Int) < 16) = true := by simp; omega
      have f0 := frozen_of_row _ _ k _ _ hcb
      have c0 := blk_cell hcb (v := cs[k]'(by omega)) (Array.getElem?_eq_getElem (by omega))
      generalize cs[k]'(by omega) = old at c0
      have hgs := Lib.hid (only_setCell (i := k) hgr (.int .u8 77))
      have hbs := Lib.hid (heap_setCell_same wr g k _ _ (.int .u8 77) hcb)
      clear hcb hgr
      go_wp2
      exact ⟨⟨k + 1, by omega, by go_num, hgs.out, _, hbs.out, by simpa using hcz⟩, by simp [intOf]; omega⟩
    · have hk16 : k = 16 := by omega
      subst hk16
      have m7 : wr.heap[w.heap.size]? = some (.cells (mcells m) 23) := (hgr.block _ lm6 (by intro e; injection e with e; omega)).trans m6
      have k7 : wr.heap[w2.heap.size]? = some (.cells (mcells m) 23) := (hgr.block _ lk6 (by intro e; injection e with e; omega)).trans k6
      have lm7 := (Array.getElem?_eq_some_iff.1 m7).1
      have lk7 := (Array.getElem?_eq_some_iff.1 k7).1
      have bel7 := below_only bel6 hgr bel6.size (by omega)
      clear hgr hcb m6 k6 lm6 lk6 bel6
      go_wp2_with (refine wpl_load23 rfl _ rfl rfl m7 hl ?_)
      refine (bytes_any m hm _).mono ?_
      rintro e w8 ⟨g8, cap8, rfl, hown8, hb8⟩
      have m8 := blk_below hb8 lm7 m7
      have lm8 := (Array.getElem?_eq_some_iff.1 m8).1
      have k8 := blk_below hb8 lk7 k7
      have lk8 := (Array.getElem?_eq_some_iff.1 k8).1
      have bel8 := below_then bel7 hb8
      clear m7 k7 lm7 lk7 bel7 hb8
      go_wp2_with (refine wpl_load23 rfl _ rfl rfl m8 hl ?_)
      refine (truths_map m hm _).mono ?_
      rintro e w9 ⟨g9, cap9, rfl, _, hg9, hc9, hb9⟩
      go_wp2_with fail
      refine (refBytes_any m hm g9 cap9 _ hc9 hg9).mono ?_
      rintro e w10 ⟨v10, rfl, hown10, hb10⟩
      have hb810 := below_then hb9 hb10
      have own8 := own_below hown8 hb810
      have m10 := blk_below hb810 lm8 m8
      have lm10 := (Array.getElem?_eq_some_iff.1 m10).1
      have k10 := blk_below hb810 lk8 k8
      have lk10 := (Array.getElem?_eq_some_iff.1 k10).1
      have bel10 := below_then bel8 hb810
      obtain ⟨_, _, hv8, _, hg8, _, hcell8⟩ := own_at own8 (by omega)
      obtain ⟨rfl, rfl⟩ : g8 = _ ∧ cap8 = _ := by simpa using hv8
      obtain ⟨g10, cap10, rfl, _, hg10, _, hcell10⟩ := own_at hown10 (by omega)
      clear hb9 hb10 hb810 hv8 m8 k8 lm8 lk8 bel8 hown8 own8 hown10 hc9 hg9
      have S8 := Lib.hid hcell8
      have S10 := Lib.hid hcell10
      clear hcell8 hcell10
      go_wp2_with fail
      refine (same_yes 16 g8 0 cap8 g10 0 cap10 (fun j => (m.getD j 0 : Nat)) (by omega) _ hg8 hg10 (fun j hj => by
        rw [Nat.zero_add, S8.out j hj, bb_get m 16 j hj]) (fun j hj => by rw [Nat.zero_add, S10.out j hj, bb_get m 16 j hj])).mono ?_
      rintro e w11 ⟨rfl, hb11⟩
      have m11 := blk_below hb11 lm10 m10
      have k11 := blk_below hb11 lk10 k10
      have bel11 := below_then bel10 hb11
      clear hb11 m10 k10 lm10 lk10 bel10
      go_wp2_with (first
        | (refine wpl_load23 (m := m) rfl _ rfl rfl k11 hl ?_)
        | (refine wpl_load23 (m := m) rfl _ rfl rfl m11 hl ?_)
        | (refine wpl_eql23 (m := m) rfl _ _ _ rfl rfl rfl hl ?_)
        | (go_at_call 13; refine (lives_any _).mono ?_; rintro e w12 ⟨rfl, hb12⟩))
      go_ret
      exact ⟨rfl, below_then bel11 hb12⟩
/-! ### THE ROW -/
set_option maxRecDepth 100000 in
theorem bitsRound_lifted (os : Os) (started : os.Started) (H : Type) (enc : TypeId × Value → H) :
    ReturnsInHanded {} Try.checked os 8 .any (Rows.bitsRoundSpec.pre6 enc Try.prog Try.f8 Rows.bitsRoundRow.domain false) (Rows.bitsRoundSpec.post enc Try.prog Try.f8 false true false false) := by
  refine returnsInHanded_of_change (C := Try.checked) own started (by kernel_rfl) Try.func8
    (ChangeSpec.witness6 (enc := enc) (C := Try.checked) false ⟨#[], #[.agg #[.int .u8 0, .int .u8 0, .int .u8 0, .int .u8 0, .int .u8 0, .int .u8 0, .int .u8 0, .int .u8 0, .int .u8 0, .int .u8 0, .int .u8 0, .int .u8 0, .int .u8 0, .int .u8 0, .int .u8 0, .int .u8 0]], []⟩ 8 (by kernel_rfl) (by kernel_rfl) (by kernel_rfl) (by kernel_rfl)) ?_
  intro W base args ds gs before hval0 hW _ _
  have hval : ∀ (j : Nat) t v, Try.f8.params[j]? = some t → args[j]? = some v → Value.okWide Try.prog W .any base t v := hval0
  have hW' := hW
  obtain ⟨p, q, hA0, hV, rfl, _, _⟩ := hW
  have hA : DataW.TrodAll enc Try.prog W 0 (fun _ => true) true Try.f8.params.toList args.toList ds p := hA0
  rw [Try.params8] at hA hval
  obtain ⟨v0, vs0, d0, ds0, p0, q0, hargs, rfl, rfl, h0, r0⟩ := trodAll_cons hA
  obtain ⟨rfl, rfl, rfl⟩ := trodAll_nil r0
  obtain rfl : args = #[v0] := by cases args; simp_all
  obtain ⟨rfl, rfl⟩ := trodVars_none hV
  have k0 := h0
  have lt0 : ∀ x ∈ p0, x.block < W.heap.size := by obtain ⟨m, hm⟩ := k0; exact DataW.trod_lt m _ _ _ hm
  obtain ⟨m0, ok0, rfl⟩ := open_map (hval 0 23 v0 rfl rfl) h0
  clear hA0 hval0
  refine (lawRound m0 ok0 W).mono fun e W' ⟨he, bel⟩ => ?_
  subst he
  exact ⟨_, rfl, _, _, _, [], _, [], hW', trodAll_mk1 (shut_bool Try.underlying4 _), (trodAll_cons_mk (Below.trod laidOut (by kernel_rfl) (of_decide_eq_true (by kernel_rfl)) k0 bel lt0) trodAll_mk0), rfl, bel.frame _, fun h => by cases h⟩
theorem bitsRound_over : Rows.bitsRoundRow.holds Try.pinned (OpenSpec.ofChange Rows.bitsRoundSpec) :=
  OpenClaim.holds_of_wide 8 Try.f8 rfl rfl rfl rfl rfl rfl rfl ⟨rfl, rfl, rfl, rfl, rfl⟩ rfl rfl rfl rfl rfl (by kernel_rfl) Try.func8 (by kernel_rfl)
    (of_decide_eq_true (by kernel_rfl)) (by unfold Func.isWrapper; first | (rw [if_pos (by decide +kernel)]; kernel_rfl) | (rw [if_neg (by decide +kernel)]; exact ⟨rfl, rfl⟩))
    (fun os started H enc _ => bitsRound_lifted os started H enc)
/-- THE STATEMENT. -/
theorem bitsRound_holds : Rows.BitsRoundSaid := bitsRound_over
end Go.Proofs.Ytabccjmkgokglaa

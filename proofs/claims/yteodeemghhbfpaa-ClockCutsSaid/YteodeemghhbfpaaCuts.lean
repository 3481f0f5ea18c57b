/-
  ClockCuts: for any number of nodes, any skews and any two numbers of ticks the law returns true: it does not matter how a time is cut. No condition.
-/
import Derived.Test.YteodeemghhbfpaaOpen
namespace Go.Proofs.Yteodeemghhbfpaa
open Go.ChangeShapes Go.WideShapes Go.ChangeAt Go.RowKit
theorem len_step (s : St) (t : Int) (n : Nat) (f : Nat → Int) (hb : bad s t n f = false) : step s t n f = ⟨mid t f n s.l s.l.length, s.now + t, s.wild || anyFar 1 f n⟩ := by
  unfold step
  rw [if_neg (by rw [hb]; decide)]
theorem mid_add (a b : Int) (f : Nat → Int) (n : Nat) (l : List Int) : mid b f n (mid a f n l l.length) (mid a f n l l.length).length = mid (a + b) f n l l.length := by
  apply List.ext_getElem
  · simp [mid]
  · intro i h1 h2
    simp only [mid, List.length_map, List.length_range] at h1
    simp [mid, h1, Int.add_mul]
    omega
/-- A time that is cut in two. -/
theorem step_cut {s : St} {a b : Int} {n : Nat} {f : Nat → Int} (ha : 1 ≤ a) (hb : 1 ≤ b) (hab : a + b ≤ 64) (hnow : s.now = 0) :
    code s (a + b) n f = code s a n f ∧ code (step s a n f) b n f = code s a n f ∧ step (step s a n f) b n f = step s (a + b) n f := by
  have e : ∀ (s' : St) (t : Int), 1 ≤ t → t ≤ 64 → s'.now ≤ 64 → bad s' t n f = (decide (s'.l.length < n) || anyFar 8 f n) := fun s' t h1 h2 h3 => by
    unfold bad
    have k1 : decide (t < 1) = false := by simp; omega
    have k2 : decide (64 < t) = false := by simp; omega
    have k3 : decide (1099511627776 - t < s'.now) = false := by simp; omega
    rw [k1, k2, k3]
    simp
  have e1 := e s a ha (by omega) (by omega)
  have e2 := e s (a + b) (by omega) hab (by omega)
  cases hq : (decide (s.l.length < n) || anyFar 8 f n)
  · rw [hq] at e1 e2
    have hs := len_step s a n f e1
    have hl : (step s a n f).l.length = s.l.length := step_len _ _ _ _
    have e3 := e (step s a n f) b hb (by omega) (by rw [hs]; simp only; omega)
    rw [hl, hq] at e3
    refine ⟨by unfold code; rw [e1, e2], by unfold code; rw [e1, e3], ?_⟩
    rw [len_step _ b n f e3, len_step s (a + b) n f e2, hs]
    simp only [St.mk.injEq]
    refine ⟨mid_add a b f n s.l, by omega, ?_⟩
    cases s.wild <;> cases anyFar 1 f n <;> rfl
  · rw [hq] at e1 e2
    have hs : step s a n f = s := by unfold step; rw [if_pos e1]
    have e3 := e s b hb (by omega) (by omega)
    rw [hq] at e3
    refine ⟨by unfold code; rw [e1, e2], by rw [hs]; unfold code; rw [e1, e3], ?_⟩
    rw [hs]
    unfold step
    rw [e3, e2, if_pos rfl, if_pos rfl]
set_option maxRecDepth 100000 in
set_option maxHeartbeats 4000000 in
theorem lawCuts (nn a b : Int) (A : Option Addr) (n cap : Nat) (f : Nat → Int) (w : World) (ha : -9223372036854775808 ≤ a ∧ a ≤ 9223372036854775807) (hb : -9223372036854775808 ≤ b ∧ b ≤ 9223372036854775807)
    (hcap : n ≤ cap) (hmax : cap ≤ maxLen) (hs : Skews w A n f) (hA : 0 < n → ∀ x, A = some x → x.block < w.heap.size) :
    Calls Try.prog 6 #[.int .i64 nn, .int .i64 a, .int .i64 b, .slice A n cap] w fun e w' => e = .returned (.bool true) ∧ Below w.heap.size w w' := by
  by_cases hin : 1 ≤ nn ∧ nn ≤ 9
  · obtain ⟨h1, h2⟩ := hin
    go_enter Try.func6, Try.ntmps6
    go_wp2_with fail
    refine (new_yes nn _ h1 h2).mono ?_
    rintro e w1 ⟨c, g, rfl, hc1, hg1, hat1, hb1⟩
    go_wp2_with fail
    refine (new_yes nn _ h1 h2).mono ?_
    rintro e w2 ⟨d, k, rfl, hc2, hg2, hat2, hb2⟩
    have hat := hat1.below hb2
    have bel2 := below_then hb1 hb2
    have hs2 := hs.below bel2
    have lc := blk_lt hat1.blk
    have lg := blk_lt hat1.row
    have hsz := hb1.size
    have HAT := Lib.hid hat
    have HAT2 := Lib.hid hat2
    have HS := Lib.hid hs2
    have HA := Lib.hid hA
    have BEL := Lib.hid bel2
    have HF := Lib.hid (few_any A n cap w2 hcap hmax)
    clear hat hat1 hat2 hs hs2 hA hb1 hb2 bel2 hcap hmax
    have n1 := (blk_lt HAT2.out.blk)
    by_cases hbad : 1 ≤ a ∧ 1 ≤ b ∧ a ≤ 64 ∧ b ≤ 64 ∧ a + b ≤ 64
    · obtain ⟨a1, b1, a2, b2, ab⟩ := hbad
      have hcut := step_cut (s := ⟨List.replicate nn.toNat 0, 0, false⟩) (a := a) (b := b) (n := min n 12) (f := f) a1 b1 ab rfl
      have hfine : Fine ⟨List.replicate nn.toNat 0, 0, false⟩ := Fine.start _ (by omega)
      have hlen := step_len ⟨List.replicate nn.toNat 0, 0, false⟩ (a + b) (min n 12) f
      simp only [List.length_replicate] at hlen
      have hat0 : CAt w2 42 c g (St.mk (List.replicate nn.toNat 0) 0 false).l (St.mk (List.replicate nn.toNat 0) 0 false).now (St.mk (List.replicate nn.toNat 0) 0 false).wild := HAT.out
      have hat1 : CAt w2 42 d k (St.mk (List.replicate nn.toNat 0) 0 false).l (St.mk (List.replicate nn.toNat 0) 0 false).now (St.mk (List.replicate nn.toNat 0) 0 false).wild := HAT2.out
      generalize (⟨List.replicate nn.toNat 0, 0, false⟩ : St) = s0 at *
      obtain ⟨q1, q2, q3⟩ := hcut
      have hcd : ∀ x, Two c g x → w.heap.size ≤ x ∧ x < w1.heap.size := fun x hx => by rcases hx with rfl | rfl <;> omega
      have hdk : ∀ x, Two d k x → w1.heap.size ≤ x := fun x hx => by rcases hx with rfl | rfl <;> omega
      have hA1 : 0 < min n 12 → ∀ x, A = some x → ¬ Two c g x.block := fun h0 x e hx => by have := (hcd _ hx).1; have := HA.out (by omega) x e; omega
      have hA2 : 0 < min n 12 → ∀ x, A = some x → ¬ Two d k x.block := fun h0 x e hx => by have := hdk _ hx; have := HA.out (by omega) x e; omega
      have hs3 : Skews w2 A (min n 12) f := HS.out.few (by omega)
      have hp1 := pass_any c g s0 (a + b) A (min n 12) cap f w2 hat0 hfine hs3 hA1 (by omega)
      rw [q1] at hp1
      have HP1 := Lib.hid hp1
      have HD := Lib.hid hat1
      have HDC := Lib.hid (And.intro hcd hdk)
      have HA1 := Lib.hid hA1
      have HA2 := Lib.hid hA2
      have HS3 := Lib.hid hs3
      have HQ := Lib.hid (And.intro q2 q3)
      have HFI := Lib.hid hfine
      have HL := Lib.hid hlen
      clear hp1 hat0 hat1 hcd hdk hA1 hA2 hs3 q1 q2 q3 hfine hlen HAT HAT2 HS HA
      go_wp2_with (go_at_call 11; refine (HF.out).mono ?_; rintro e w3 ⟨rfl, rfl⟩)
      refine (HP1.out).mono ?_
      rintro e w3 ⟨rfl, hc3, hf3⟩
      have hd3 : CAt w3 42 d k s0.l s0.now s0.wild := HD.out.fr hf3 (fun h => by have := (HDC.out.1 _ h).2; have := HDC.out.2 d (.inl rfl); omega) (fun h => by have := (HDC.out.1 _ h).2; have := HDC.out.2 k (.inr rfl); omega)
      have hs4 := HS3.out.fr hf3 HA1.out
      have bel3 := BEL.out.trans (hf3.below (by have := BEL.out.size; omega) (fun x hx => (HDC.out.1 x hx).1))
      have hp2 := pass_any d k s0 a A (min n 12) cap f w3 hd3 HFI.out hs4 HA2.out (by omega)
      have HP2 := Lib.hid hp2
      have HC3 := Lib.hid hc3
      have HS4 := Lib.hid hs4
      have BEL3 := Lib.hid bel3
      clear hp2 hc3 hf3 hd3 hs4 bel3 HP1
      go_wp2_with fail
      refine (HP2.out).mono ?_
      rintro e w4 ⟨rfl, hd4, hf4⟩
      have hc4 := HC3.out.fr hf4 (fun h => by have := (HDC.out.1 c (.inl rfl)).2; have := HDC.out.2 _ h; omega) (fun h => by have := (HDC.out.1 g (.inr rfl)).2; have := HDC.out.2 _ h; omega)
      have hs5 := HS4.out.fr hf4 HA2.out
      have bel4 := BEL3.out.trans (hf4.below (by have := BEL3.out.size; omega) (fun x hx => by have := HDC.out.2 x hx; omega))
      have hp3 := pass_any d k (step s0 a (min n 12) f) b A (min n 12) cap f w4 hd4 (HFI.out.step _ _ _) hs5 HA2.out (by omega)
      rw [HQ.out.1, HQ.out.2] at hp3
      have HP3 := Lib.hid hp3
      have HC4 := Lib.hid hc4
      have BEL4 := Lib.hid bel4
      clear hp3 hc4 hf4 hd4 hs5 bel4 HP2 HC3 HS4
      go_wp2_with fail
      refine (HP3.out).mono ?_
      rintro e w5 ⟨rfl, hd5, hf5⟩
      have hc5 := HC4.out.fr hf5 (fun h => by have := (HDC.out.1 c (.inl rfl)).2; have := HDC.out.2 _ h; omega) (fun h => by have := (HDC.out.1 g (.inr rfl)).2; have := HDC.out.2 _ h; omega)
      have bel5 := BEL4.out.trans (hf5.below (by have := BEL4.out.size; omega) (fun x hx => by have := HDC.out.2 x hx; omega))
      have HC5 := Lib.hid (And.intro (fun i => show_any hc5 i) (fun i => show_any hd5 i))
      have HT5 := Lib.hid (And.intro (true_any hc5) (true_any hd5))
      have HK5 := Lib.hid (And.intro (kept_any hc5) (kept_any hd5))
      generalize code s0 a (min n 12) f = E at *
      have hee : (E != E) = false := by simp
      clear hc5 hd5 hf5 HP3 HC4 BEL3 BEL4
      generalize step s0 (a + b) (min n 12) f = S at *
      go_wp2_with fail
      go_loop [14] (fun i => ∃ q : Nat, (q : Int) ≤ nn ∧ i = .int .i64 q) (fun i => nn.toNat - (intOf i).toNat)
      case atStart => exact ⟨0, by omega, rfl⟩
      case round =>
        obtain ⟨q, hq, rfl⟩ := hrel
        by_cases hlt : (q : Int) < nn
        · have hd : decide ((q : Int) < nn) = true := by simpa using hlt
          go_wp2_with fail
          refine (HC5.out.1 _).mono ?_
          rintro e w6 ⟨rfl, rfl⟩
          go_wp2_with fail
          refine (HC5.out.2 _).mono ?_
          rintro e w6 ⟨rfl, rfl⟩
          generalize sh S.l (q : Int) = z at *
          have hzz : (z != z) = false := by simp
          go_wp2_with fail
          exact ⟨⟨q + 1, by omega, by go_num⟩, by simp [intOf]; omega⟩
        · have hd : decide ((q : Int) < nn) = false := by simpa using hlt
          go_wp2_with fail
          refine (HT5.out.1).mono ?_
          rintro e w6 ⟨rfl, rfl⟩
          go_wp2_with fail
          refine (HT5.out.2).mono ?_
          rintro e w6 ⟨rfl, rfl⟩
          have hnn : (S.now == S.now) = true := by simp
          go_wp2_with fail
          refine (HK5.out.1).mono ?_
          rintro e w6 ⟨rfl, rfl⟩
          go_wp2_with fail
          refine (HK5.out.2).mono ?_
          rintro e w6 ⟨rfl, rfl⟩
          have hbb : ((!S.wild) == (!S.wild)) = true := by simp
          go_wp2_with (go_at_call 9; refine (lives_any _).mono ?_; rintro e w7 ⟨rfl, hb7⟩)
          go_ret
          exact ⟨rfl, below_then bel5 hb7⟩
    · have hor : a < 1 ∨ (1 ≤ a ∧ b < 1) ∨ (1 ≤ a ∧ 1 ≤ b ∧ 64 < a) ∨ (1 ≤ a ∧ 1 ≤ b ∧ a ≤ 64 ∧ 64 < b) ∨ (1 ≤ a ∧ 1 ≤ b ∧ a ≤ 64 ∧ b ≤ 64 ∧ 64 < a + b) := by omega
      clear hbad ha hb HAT HAT2 HS HA
      rcases hor with k1 | ⟨k1, k2⟩ | ⟨k1, k2, k3⟩ | ⟨k1, k2, k3, k4⟩ | ⟨k1, k2, k3, k4, k5⟩
      all_goals
        go_wp2_with (first | (go_at_call 11; refine (HF.out).mono ?_; rintro e w3 ⟨rfl, rfl⟩) | (go_at_call 9; refine (lives_any _).mono ?_; rintro e w7 ⟨rfl, hb7⟩))
        go_ret
        exact ⟨rfl, below_then BEL.out hb7⟩
  · have hno : nn < 1 ∨ 9 < nn := by omega
    clear hs hA ha hb
    rcases hno with k1 | k1
    all_goals
      go_enter Try.func6, Try.ntmps6
      go_wp2_with fail
      refine (new_no nn _ (by omega)).mono ?_
      rintro e w1 ⟨rfl, rfl⟩
      go_wp2_with fail
      refine (new_no nn _ (by omega)).mono ?_
      rintro e w1 ⟨rfl, rfl⟩
      go_wp2_with (go_at_call 9; refine (lives_any _).mono ?_; rintro e w7 ⟨rfl, hb7⟩)
      go_ret
      exact ⟨rfl, hb7⟩
/-! ### THE ROW -/
set_option maxRecDepth 100000 in
theorem clockCuts_lifted (os : Os) (started : os.Started) (H : Type) (enc : TypeId × Value → H) :
    ReturnsInHanded {} Try.checked os 6 .any (Rows.clockCutsSpec.pre6 enc Try.prog Try.f6 Rows.clockCutsRow.domain false) (Rows.clockCutsSpec.post enc Try.prog Try.f6 false true false false) := by
  refine returnsInHanded_of_change (C := Try.checked) own started (by kernel_rfl) Try.func6
    (ChangeSpec.witness6 (enc := enc) (C := Try.checked) false ⟨#[], #[.int .i64 0, .int .i64 0, .int .i64 0, .slice none 0 0], []⟩ 8 (by kernel_rfl) (by kernel_rfl) (by kernel_rfl) (by kernel_rfl)) ?_
  intro W base args ds gs before hval0 hW _ _
  have hval : ∀ (j : Nat) t v, Try.f6.params[j]? = some t → args[j]? = some v → Value.okWide Try.prog W .any base t v := hval0
  have hW' := hW
  obtain ⟨p, q, hA0, hV, rfl, _, _⟩ := hW
  have hA : DataW.TrodAll enc Try.prog W 0 (fun _ => true) true Try.f6.params.toList args.toList ds p := hA0
  rw [Try.params6] at hA hval
  obtain ⟨v0, vs0, d0, ds0, p0, q0, hargs, rfl, rfl, h0, r0⟩ := trodAll_cons hA
  obtain ⟨v1, vs1, d1, ds1, p1, q1, rfl, rfl, rfl, h1, r1⟩ := trodAll_cons r0
  obtain ⟨v2, vs2, d2, ds2, p2, q2, rfl, rfl, rfl, h2, r2⟩ := trodAll_cons r1
  obtain ⟨v3, vs3, d3, ds3, p3, q3, rfl, rfl, rfl, h3, r3⟩ := trodAll_cons r2
  obtain ⟨rfl, rfl, rfl⟩ := trodAll_nil r3
  obtain rfl : args = #[v0, v1, v2, v3] := by cases args; simp_all
  obtain ⟨rfl, rfl⟩ := trodVars_none hV
  obtain ⟨a0, rfl, rfl, rfl, w0⟩ := open_int Try.underlying3 (hval 0 3 v0 rfl rfl) h0
  obtain ⟨a1, rfl, rfl, rfl, w1⟩ := open_int Try.underlying3 (hval 1 3 v1 rfl rfl) h1
  obtain ⟨a2, rfl, rfl, rfl, w2⟩ := open_int Try.underlying3 (hval 2 3 v2 rfl rfl) h2
  have k3 := h3
  have lt3 : ∀ x ∈ p3, x.block < W.heap.size := by obtain ⟨m, hm⟩ := k3; exact DataW.trod_lt m _ _ _ hm
  obtain ⟨A3, n3, c3, f3, rfl, w3⟩ := open_nums (hval 3 30 v3 rfl rfl) h3
  clear hA0 hval0
  refine (lawCuts a0 a1 a2 A3 n3 c3 f3 W (bounds_i64 w1) (bounds_i64 w2) w3.le w3.max w3.skews w3.old).mono fun e W' ⟨he, bel⟩ => ?_
  subst he
  exact ⟨_, rfl, _, _, _, [], _, [], hW', trodAll_mk1 (shut_bool Try.underlying4 _), (trodAll_cons_mk (shut_int Try.underlying3 w0) (trodAll_cons_mk (shut_int Try.underlying3 w1) (trodAll_cons_mk (shut_int Try.underlying3 w2) (trodAll_cons_mk (Below.trod laidOut (by kernel_rfl) (of_decide_eq_true (by kernel_rfl)) k3 bel lt3) trodAll_mk0)))), rfl, bel.frame _, fun h => by cases h⟩
theorem clockCuts_over : Rows.clockCutsRow.holds Try.pinned (OpenSpec.ofChange Rows.clockCutsSpec) :=
  OpenClaim.holds_of_wide 6 Try.f6 rfl rfl rfl rfl rfl rfl rfl ⟨rfl, rfl, rfl, rfl, rfl⟩ rfl rfl rfl rfl rfl (by kernel_rfl) Try.func6 (by kernel_rfl)
    (of_decide_eq_true (by kernel_rfl)) (by unfold Func.isWrapper; first | (rw [if_pos (by decide +kernel)]; kernel_rfl) | (rw [if_neg (by decide +kernel)]; exact ⟨rfl, rfl⟩))
    (fun os started H enc _ => clockCuts_lifted os started H enc)
/-- THE STATEMENT. -/
theorem clockCuts_holds : Rows.ClockCutsSaid := clockCuts_over
end Go.Proofs.Yteodeemghhbfpaa

/-
  ClockPlays: for any number of nodes and any passes the law returns true: clocks show just what the document says. No condition.
-/
import Derived.Test.YteodeemghhbfpaaOpen
namespace Go.Proofs.Yteodeemghhbfpaa
open Go.ChangeShapes Go.WideShapes Go.ChangeAt Go.RowKit
theorem few_still (A : Option Addr) (n cap : Nat) (w : World) (hn : n ≤ cap) (hmax : cap ≤ maxLen) : Calls Try.prog 11 #[.slice A n cap] w fun e w' => e = .returned (.slice A (min n 12) cap) ∧ w' = w :=
  (few_any A n cap w hn hmax).mono fun _ _ ⟨he, hw⟩ => ⟨he, hw.symm⟩
def S4 (c g d k : Nat) : Nat → Prop := fun x => Two c g x ∨ Two d k x
set_option maxRecDepth 100000 in
set_option maxHeartbeats 8000000 in
theorem lawPlays (nn : Int) (A : Option Addr) (n cap : Nat) (p : Nat → One) (w : World) (_ : n ≤ cap) (hmax : cap ≤ maxLen) (hp : Passes w A n p) :
    Calls Try.prog 3 #[.int .i64 nn, .slice A n cap] w fun e w' => e = .returned (.bool true) ∧ Below w.heap.size w w' := by
  have hmax' := hmax
  unfold maxLen at hmax
  by_cases hin : 1 ≤ nn ∧ nn ≤ 9
  · obtain ⟨h1, h2⟩ := hin
    go_enter Try.func3, Try.ntmps3
    go_wp2_with fail
    refine (new_yes nn _ h1 h2).mono ?_
    rintro e w1 ⟨c, g, rfl, hc1, hg1, hat1, hb1⟩
    go_wp2_with fail
    refine (rnew_yes nn _ h1 h2).mono ?_
    rintro e w2 ⟨d, k, rfl, hc2, hg2, hat2, hb2⟩
    have lc := blk_lt hat1.blk
    have lg := blk_lt hat1.row
    have bel2 := below_then hb1 hb2
    have hs4 : ∀ x, S4 c g d k x → w.heap.size ≤ x := fun x hx => by have := hb1.size; rcases hx with (rfl | rfl) | (rfl | rfl) <;> omega
    have hdis : ∀ x, Two c g x → ¬ Two d k x := fun x hx hy => by rcases hx with rfl | rfl <;> rcases hy with rfl | rfl <;> omega
    have hat := hat1.below hb2
    have hfine : Fine ⟨List.replicate nn.toNat 0, 0, false⟩ := Fine.start _ (by omega)
    have HS4 := Lib.hid hs4
    have HDIS := Lib.hid hdis
    have BEL := Lib.hid bel2
    have HP := Lib.hid hp
    have HFI := Lib.hid hfine
    have HAT := Lib.hid hat
    have HAT2 := Lib.hid hat2
    have HMX := Lib.hid hmax'
    clear hs4 hdis bel2 hp hfine hat hat1 hat2 hb1 hb2 lc lg hc1 hg1 hc2 hg2 hmax'
    go_wp2_with fail
    go_loopw [7] (fun i wr => ∃ (j : Nat) (s : St), j ≤ n ∧ i = .int .i64 j ∧ Fine s ∧ s.l.length = nn.toNat ∧ CAt wr 42 c g s.l s.now s.wild ∧ CAt wr 36 d k s.l s.now (!s.wild) ∧ Fr (S4 c g d k) w2 wr) (fun i _ => n - (intOf i).toNat)
    case atStart => exact ⟨0, ⟨List.replicate nn.toNat 0, 0, false⟩, Nat.zero_le _, rfl, HFI.out, by simp, HAT.out, HAT2.out, Fr.refl _ _⟩
    case round =>
      obtain ⟨j, s, hj, rfl, hfi, hln, hcc, hrr, hfr⟩ := hrel
      have bel : Below w.heap.size w wr := BEL.out.trans (hfr.below BEL.out.size HS4.out)
      have BELR := Lib.hid bel
      by_cases hlt : j < n ∧ j < 30
      · obtain ⟨hlt1, hlt2⟩ := hlt
        obtain ⟨b, off, rfl, hb, hcells⟩ := HP.out.at_ (by omega)
        have hd1 : decide ((j : Int) < (n : Int)) = true := by simp; omega
        have hd2 : decide ((j : Int) < 30) = true := by simp; omega
        have hpl := HP.out.le j hlt1
        have hpm := HP.out.max j hlt1
        have hpo := HP.out.old j hlt1
        have hpw := HP.out.wf j hlt1
        have hps := HP.out.skews j hlt1
        obtain ⟨hct, hcs⟩ := hcells j hlt1
        generalize hone : p j = o at *
        obtain ⟨t, A', n', cap', f⟩ := o
        simp only at hpl hpm hpo hpw hps hct hcs
        have hps' : Skews wr A' (min n' 12) f := (hps.below bel).few (by omega)
        have hA1 : 0 < min n' 12 → ∀ x, A' = some x → ¬ S4 c g d k x.block := fun h0 x e hx => by have := HS4.out _ hx; have := hpo (by omega) x e; omega
        have q1 := (bel.cell (p := ⟨b, off + j * 2, none⟩) hb).trans hct
        have q2 := (bel.cell (p := ⟨b, off + j * 2 + 1, none⟩) hb).trans hcs
        have HQ := Lib.hid (And.intro q1 q2)
        have HPS := Lib.hid hps'
        have HA1 : Hid _ := Lib.hid (And.intro (fun (h0 : 0 < min n' 12) (x : Addr) (e : A' = some x) (hx : Two c g x.block) => hA1 h0 x e (.inl hx)) (fun (h0 : 0 < min n' 12) (x : Addr) (e : A' = some x) (hx : Two d k x.block) => hA1 h0 x e (.inr hx)))
        have hb4 : ¬ S4 c g d k b := fun hx => by have := HS4.out _ hx; omega
        have HB4 : Hid _ := Lib.hid (And.intro (fun (hx : Two c g b) => hb4 (.inl hx)) (fun (hx : Two d k b) => hb4 (.inr hx)))
        have HPW := Lib.hid hpw
        have HONE := Lib.hid hone
        have HPLM := Lib.hid (And.intro hpl hpm)
        have HCC := Lib.hid (And.intro hcc hrr)
        have HFR := Lib.hid hfr
        have HFI2 := Lib.hid (And.intro hfi hln)
        clear hcells hps hps' hA1 hb4 hpo hpw hpl hpm hct hcs hone hcc hrr hfr hfi hln bel q1 q2
        go_wp2_with fail
        refine wp_region_still_tail 12 (by kernel_rfl) (by kernel_rfl) ?_
        change wpStill _ _ (World.drew wr) (fun a' => wpList _ _ _ _ a' (World.drew wr)) _ _
        have hcc := HCC.out.1.drew
        have hrr := HCC.out.2.drew
        have hfr := HFR.out.drew
        have q1 : wr.drew.cell? ⟨b, off + j * 2, none⟩ = some (.int .i64 t) := HQ.out.1
        have q2 : wr.drew.cell? ⟨b, off + j * 2 + 1, none⟩ = some (.slice A' n' cap') := HQ.out.2
        have hps : Skews wr.drew A' (min n' 12) f := HPS.out
        have belr : Below w.heap.size w wr.drew := BELR.out.drew
        generalize World.drew wr = wd at *
        have HCC' := Lib.hid (And.intro hcc hrr)
        have HPS' := Lib.hid hps
        clear HCC HFR HQ HPS BELR hcc hrr hps
        simp only [List.take_succ_cons, List.take_zero, List.drop_succ_cons, List.drop_zero]
        repeat still_step
        still_call (few_still A' n' cap' _ HPLM.out.1 HPLM.out.2)
        refine wpStill_nil ?_
        go_wp2_with fail
        refine (pass_any c g s t A' (min n' 12) cap' f wd HCC'.out.1 HFI2.out.1 HPS'.out HA1.1 (by omega)).mono ?_
        rintro e w3 ⟨rfl, hcc, hf3⟩
        have hrr := HCC'.out.2.fr hf3 (fun h => HDIS.out _ h (.inl rfl)) (fun h => HDIS.out _ h (.inr rfl))
        have hps := HPS'.out.fr hf3 HA1.1
        have hfr3 := hfr.trans (hf3.mono fun x hx => Or.inl hx)
        have belr3 := belr.trans (hf3.below (by have := belr.size; omega) (fun x hx => HS4.out x (.inl hx)))
        have q1 := hf3.cell HB4.out.1 q1
        have q2 := hf3.cell HB4.out.1 q2
        have HCC := Lib.hid (And.intro hcc hrr)
        have HFR := Lib.hid hfr3
        have HPS := Lib.hid hps
        have HQ := Lib.hid (And.intro q1 q2)
        have BELR := Lib.hid belr3
        clear hcc hf3 hrr hps hfr hfr3 belr belr3 q1 q2 HCC' HPS'
        go_wp2_with fail
        refine wp_region_still_tail 12 (by kernel_rfl) (by kernel_rfl) ?_
        change wpStill _ _ (World.drew w3) (fun a' => wpList _ _ _ _ a' (World.drew w3)) _ _
        have hcc := HCC.out.1.drew
        have hrr := HCC.out.2.drew
        have hfr := HFR.out.drew
        have q1 : w3.drew.cell? ⟨b, off + j * 2, none⟩ = some (.int .i64 t) := HQ.out.1
        have q2 : w3.drew.cell? ⟨b, off + j * 2 + 1, none⟩ = some (.slice A' n' cap') := HQ.out.2
        have hps : Skews w3.drew A' (min n' 12) f := HPS.out
        have belr : Below w.heap.size w w3.drew := BELR.out.drew
        generalize World.drew w3 = wd3 at *
        have HCC' := Lib.hid (And.intro hcc hrr)
        clear HCC HFR HQ HPS BELR hcc hrr
        simp only [List.take_succ_cons, List.take_zero, List.drop_succ_cons, List.drop_zero]
        repeat still_step
        still_call (few_still A' n' cap' _ HPLM.out.1 HPLM.out.2)
        refine wpStill_nil ?_
        go_wp2_with fail
        refine (rpass_any d k s t A' (min n' 12) cap' f wd3 HCC'.out.2 HFI2.out.1 hps HA1.2 (by omega) HPW.out).mono ?_
        rintro e w4 ⟨rfl, hrr, hf4⟩
        have hcc := HCC'.out.1.fr hf4 (fun h => HDIS.out _ (.inl rfl) h) (fun h => HDIS.out _ (.inr rfl) h)
        have hfr4 := hfr.trans (hf4.mono fun x hx => Or.inr hx)
        have belr4 := belr.trans (hf4.below (by have := belr.size; omega) (fun x hx => HS4.out x (.inr hx)))
        have hfi := HFI2.out.1.step t (min n' 12) f
        have hln := (step_len s t (min n' 12) f).trans HFI2.out.2
        generalize code s t (min n' 12) f = E at *
        generalize step s t (min n' 12) f = s2 at *
        have hT := fun dd os => (true_any (hcc.below (below_regrown w4 dd os))).mono (R' := fun e w' => e = .returned (.int .i64 s2.now) ∧ Below (Go.Sort.grow (redrawn w4 dd) os).heap.size (Go.Sort.grow (redrawn w4 dd) os) w') (fun e w' ⟨he, hw⟩ => ⟨he, hw ▸ Below.refl _ _⟩)
        have hK := fun dd os => (kept_any (hcc.below (below_regrown w4 dd os))).mono (R' := fun e w' => e = .returned (.bool (!s2.wild)) ∧ Below (Go.Sort.grow (redrawn w4 dd) os).heap.size (Go.Sort.grow (redrawn w4 dd) os) w') (fun e w' ⟨he, hw⟩ => ⟨he, hw ▸ Below.refl _ _⟩)
        have k1 := fun dd os => cell_regrown hrr.c1 dd os
        have k2 := fun dd os => cell_regrown hrr.c2 dd os
        have HCC := Lib.hid (And.intro hcc hrr)
        have HFR := Lib.hid hfr4
        have BELR := Lib.hid belr4
        have HT := Lib.hid hT
        have HK := Lib.hid hK
        have HFL := Lib.hid (And.intro hfi hln)
        clear hcc hrr hf4 hfr4 belr4 belr hfr hps q1 q2 hT hK hfi hln HCC' HFI2
        obtain ⟨l2, now2, wild2⟩ := s2
        dsimp only at k1 k2
        have he : (E != E) = false := by simp
        have hn : (now2 != now2) = false := by simp
        have hk : ((!wild2) != (!wild2)) = false := by simp
        go_wp2_with fail
        refine wp_region_quiet_below (by kernel_rfl) (by kernel_rfl) ?_
        repeat (go_big_quiet_step (first | (go_at_call 13; exact Calls.regrown_of (HT.out _ _)) | (go_at_call 14; exact Calls.regrown_of (HK.out _ _))))
        refine wpQuiet_nil ?_
        intro w5 hw5
        have hb5 := near_iff.1 hw5
        have hcc5 := HCC.out.1.below hb5
        have hrr5 := HCC.out.2.below hb5
        have hfr5 := HFR.out.trans (Fr.of_below hb5)
        have HS5 := Lib.hid (And.intro (show_any hcc5) (rshow_any hrr5 HFL.out.1.small))
        have HCC5 := Lib.hid (And.intro hcc5 hrr5)
        have HFR5 := Lib.hid hfr5
        clear hw5 hb5 hcc5 hrr5 hfr5 HCC HFR HT HK k1 k2
        go_wp2_with fail
        go_loop [10] (fun i => ∃ q : Nat, (q : Int) ≤ nn + 2 ∧ i = .int .i64 ((q : Int) - 1)) (fun i => (nn + 1 - intOf i).toNat)
        case atStart => exact ⟨0, by omega, rfl⟩
        case round =>
          obtain ⟨q, hq, rfl⟩ := hrel
          by_cases hlt : (q : Int) - 1 ≤ nn
          · have hd : decide ((q : Int) - 1 ≤ nn) = true := by simpa using hlt
            go_wp2_with fail
            refine (HS5.out.1 _).mono ?_
            rintro e w6 ⟨rfl, rfl⟩
            go_wp2_with fail
            refine (HS5.out.2 _).mono ?_
            rintro e w6 ⟨rfl, rfl⟩
            generalize sh l2 ((q : Int) - 1) = z at *
            have hzz : (z != z) = false := by simp
            go_wp2_with fail
            exact ⟨⟨q + 1, by omega, by go_num⟩, by simp [intOf]; omega⟩
          · have hd : decide ((q : Int) - 1 ≤ nn) = false := by simpa using hlt
            go_wp2_with fail
            exact ⟨⟨j + 1, ⟨l2, now2, wild2⟩, by omega, by go_num, HFL.out.1, HFL.out.2, HCC5.out.1, HCC5.out.2, HFR5.out⟩, by simp [intOf]; omega⟩
      · have hfr' := BELR.out
        clear hcc hrr hfr HP
        by_cases hlt1 : j < n
        · have hd1 : decide ((j : Int) < (n : Int)) = true := by simp; omega
          have hd2 : decide ((j : Int) < 30) = false := by simp; omega
          go_wp2_with (go_at_call 9; refine (lives_any _).mono ?_; rintro e w7 ⟨rfl, hb7⟩)
          go_ret
          exact ⟨rfl, below_then hfr' hb7⟩
        · have hd1 : decide ((j : Int) < (n : Int)) = false := by simp; omega
          go_wp2_with (go_at_call 9; refine (lives_any _).mono ?_; rintro e w7 ⟨rfl, hb7⟩)
          go_ret
          exact ⟨rfl, below_then hfr' hb7⟩
  · have hno : nn < 1 ∨ 9 < nn := by omega
    clear hp hmax
    rcases hno with k1 | k1
    all_goals
      go_enter Try.func3, Try.ntmps3
      go_wp2_with fail
      refine (new_no nn _ (by omega)).mono ?_
      rintro e w1 ⟨rfl, rfl⟩
      go_wp2_with fail
      refine (rnew_no nn _ (by omega)).mono ?_
      rintro e w1 ⟨rfl, rfl⟩
      go_wp2_with (go_at_call 9; refine (lives_any _).mono ?_; rintro e w7 ⟨rfl, hb7⟩)
      go_ret
      exact ⟨rfl, hb7⟩
/-! ### THE ROW -/
set_option maxRecDepth 100000 in
theorem clockPlays_lifted (os : Os) (started : os.Started) (H : Type) (enc : TypeId × Value → H) :
    ReturnsInHanded {} Try.checked os 3 .any (Rows.clockPlaysSpec.pre6 enc Try.prog Try.f3 Rows.clockPlaysRow.domain false) (Rows.clockPlaysSpec.post enc Try.prog Try.f3 false true false false) := by
  refine returnsInHanded_of_change (C := Try.checked) own started (by kernel_rfl) Try.func3
    (ChangeSpec.witness6 (enc := enc) (C := Try.checked) false ⟨#[], #[.int .i64 0, .slice none 0 0], []⟩ 8 (by kernel_rfl) (by kernel_rfl) (by kernel_rfl) (by kernel_rfl)) ?_
  intro W base args ds gs before hval0 hW _ _
  have hval : ∀ (j : Nat) t v, Try.f3.params[j]? = some t → args[j]? = some v → Value.okWide Try.prog W .any base t v := hval0
  have hW' := hW
  obtain ⟨p, q, hA0, hV, rfl, _, _⟩ := hW
  have hA : DataW.TrodAll enc Try.prog W 0 (fun _ => true) true Try.f3.params.toList args.toList ds p := hA0
  rw [Try.params3] at hA hval
  obtain ⟨v0, vs0, d0, ds0, p0, q0, hargs, rfl, rfl, h0, r0⟩ := trodAll_cons hA
  obtain ⟨v1, vs1, d1, ds1, p1, q1, rfl, rfl, rfl, h1, r1⟩ := trodAll_cons r0
  obtain ⟨rfl, rfl, rfl⟩ := trodAll_nil r1
  obtain rfl : args = #[v0, v1] := by cases args; simp_all
  obtain ⟨rfl, rfl⟩ := trodVars_none hV
  obtain ⟨a0, rfl, rfl, rfl, w0⟩ := open_int Try.underlying3 (hval 0 3 v0 rfl rfl) h0
  have k1 := h1
  have lt1 : ∀ x ∈ p1, x.block < W.heap.size := by obtain ⟨m, hm⟩ := k1; exact DataW.trod_lt m _ _ _ hm
  obtain ⟨A1, n1, c1, q1, rfl, le1, mx1, w1⟩ := open_passes (hval 1 22 v1 rfl rfl) h1
  clear hA0 hval0
  refine (lawPlays a0 A1 n1 c1 q1 W le1 mx1 w1).mono fun e W' ⟨he, bel⟩ => ?_
  subst he
  exact ⟨_, rfl, _, _, _, [], _, [], hW', trodAll_mk1 (shut_bool Try.underlying4 _), (trodAll_cons_mk (shut_int Try.underlying3 w0) (trodAll_cons_mk (Below.trod laidOut (by kernel_rfl) (of_decide_eq_true (by kernel_rfl)) k1 bel lt1) trodAll_mk0)), rfl, bel.frame _, fun h => by cases h⟩
theorem clockPlays_over : Rows.clockPlaysRow.holds Try.pinned (OpenSpec.ofChange Rows.clockPlaysSpec) :=
  OpenClaim.holds_of_wide 3 Try.f3 rfl rfl rfl rfl rfl rfl rfl ⟨rfl, rfl, rfl, rfl, rfl⟩ rfl rfl rfl rfl rfl (by kernel_rfl) Try.func3 (by kernel_rfl)
    (of_decide_eq_true (by kernel_rfl)) (by unfold Func.isWrapper; first | (rw [if_pos (by decide +kernel)]; kernel_rfl) | (rw [if_neg (by decide +kernel)]; exact ⟨rfl, rfl⟩))
    (fun os started H enc _ => clockPlays_lifted os started H enc)
/-- THE STATEMENT. -/
theorem clockPlays_holds : Rows.ClockPlaysSaid := clockPlays_over
end Go.Proofs.Yteodeemghhbfpaa

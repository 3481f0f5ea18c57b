/-
  ClockRises: for any number of nodes and any passes the law returns true: no clock goes back. No condition.
-/
import Derived.Test.YteodeemghhbfpaaOpen
namespace Go.Proofs.Yteodeemghhbfpaa
open Go.ChangeShapes Go.WideShapes Go.ChangeAt Go.RowKit
theorem few_still (A : Option Addr) (n cap : Nat) (w : World) (hn : n ≤ cap) (hmax : cap ≤ maxLen) : Calls Try.prog 11 #[.slice A n cap] w fun e w' => e = .returned (.slice A (min n 12) cap) ∧ w' = w :=
  (few_any A n cap w hn hmax).mono fun _ _ ⟨he, hw⟩ => ⟨he, hw.symm⟩
/-- What a pass does to the true time and to what is shown. -/
theorem rise (s : St) (t : Int) (n : Nat) (f : Nat → Int) : (code s t n f = 0 ∧ (step s t n f).now = s.now + t ∧ 1 ≤ t ∧ t ≤ 64 ∧ s.now ≤ 1099511627776 - t) ∨ (code s t n f = 1 ∧ step s t n f = s) := by
  cases hb : bad s t n f
  · obtain ⟨h1, h2, h3, h4, h5⟩ := good_parts hb
    refine .inl ⟨by unfold code; rw [if_neg (by rw [hb]; decide)], ?_, h1, h2, h5⟩
    unfold step
    rw [if_neg (by rw [hb]; decide)]
  · refine .inr ⟨by unfold code; rw [if_pos hb], ?_⟩
    unfold step
    rw [if_pos hb]
theorem rise_sh (s : St) (t : Int) (n : Nat) (f : Nat → Int) (i : Int) : sh s.l i ≤ sh (step s t n f).l i := by
  cases hb : bad s t n f
  · obtain ⟨h1, h2, h3, h4, h5⟩ := good_parts hb
    unfold sh
    rw [step_len]
    split
    · rename_i h
      rw [step_get hb _ (by omega)]
      have hr := (rate_bd h4 i.toNat).1
      have : 0 ≤ t * rate f n i.toNat := Int.mul_nonneg (by omega) hr
      omega
    · exact Int.le_refl _
  · unfold step
    rw [if_pos hb]
    exact Int.le_refl _
def shows (l : List Int) (q : Nat) : List Value := (List.range q).map fun (i : Nat) => .int .i64 (sh l (i : Int))
theorem shows_succ (l : List Int) (q : Nat) : shows l (q + 1) = shows l q ++ [.int .i64 (sh l (q : Int))] := by simp [shows, List.range_succ]
theorem shows_get (l : List Int) (q i : Nat) (h : i < q) : (shows l q)[i]? = some (.int .i64 (sh l (i : Int))) := by simp [shows, h]
set_option maxRecDepth 100000 in
set_option maxHeartbeats 8000000 in
theorem lawRises (nn : Int) (A : Option Addr) (n cap : Nat) (p : Nat → One) (w : World) (_ : n ≤ cap) (_ : cap ≤ maxLen) (hp : Passes w A n p) :
    Calls Try.prog 4 #[.int .i64 nn, .slice A n cap] w fun e w' => e = .returned (.bool true) ∧ Below w.heap.size w w' := by
  by_cases hin : 1 ≤ nn ∧ nn ≤ 9
  · obtain ⟨h1, h2⟩ := hin
    obtain ⟨m, rfl⟩ := Int.eq_ofNat_of_zero_le (show 0 ≤ nn by omega)
    go_enter Try.func4, Try.ntmps4
    go_wp2_with fail
    refine (new_yes m _ h1 h2).mono ?_
    rintro e w1 ⟨c, g, rfl, hc1, hg1, hat1, hb1⟩
    have hs2 : ∀ x, Two c g x → w.heap.size ≤ x := fun x hx => by rcases hx with rfl | rfl <;> omega
    have hfine : Fine ⟨List.replicate (m : Int).toNat 0, 0, false⟩ := Fine.start _ (by omega)
    have HS2 := Lib.hid hs2
    have BEL := Lib.hid hb1
    have HP := Lib.hid hp
    have HFI := Lib.hid hfine
    have HAT := Lib.hid hat1
    clear hs2 hp hfine hat1 hb1 hc1 hg1
    go_wp2_with fail
    go_loopw [6] (fun i wr => ∃ (j : Nat) (s : St), j ≤ n ∧ i = .int .i64 j ∧ Fine s ∧ s.l.length = m ∧ CAt wr 42 c g s.l s.now s.wild ∧ Fr (Two c g) w1 wr) (fun i _ => n - (intOf i).toNat)
    case atStart => exact ⟨0, ⟨List.replicate (m : Int).toNat 0, 0, false⟩, Nat.zero_le _, rfl, HFI.out, by simp, HAT.out, Fr.refl _ _⟩
    case round =>
      obtain ⟨j, s, hj, rfl, hfi, hln, hcc, hfr⟩ := hrel
      have bel : Below w.heap.size w wr := BEL.out.trans (hfr.below BEL.out.size HS2.out)
      have BELR := Lib.hid bel
      by_cases hlt : j < n ∧ j < 30
      · obtain ⟨hlt1, hlt2⟩ := hlt
        obtain ⟨b, off, rfl, hb, hcells⟩ := HP.out.at_ (by omega)
        have hd1 : decide ((j : Int) < (n : Int)) = true := by simp; omega
        have hd2 : decide ((j : Int) < 30) = true := by simp; omega
        have hpl := HP.out.le j hlt1
        have hpm := HP.out.max j hlt1
        have hpo := HP.out.old j hlt1
        have hps := HP.out.skews j hlt1
        obtain ⟨hct, hcs⟩ := hcells j hlt1
        generalize hone : p j = o at *
        obtain ⟨t, A', n', cap', f⟩ := o
        simp only at hpl hpm hpo hps hct hcs
        have hps' : Skews wr A' (min n' 12) f := (hps.below bel).few (by omega)
        have hA1 : 0 < min n' 12 → ∀ x, A' = some x → ¬ Two c g x.block := fun h0 x e hx => by have := HS2.out _ hx; have := hpo (by omega) x e; omega
        have hb4 : ¬ Two c g b := fun hx => by have := HS2.out _ hx; omega
        have q1 := (bel.cell (p := ⟨b, off + j * 2, none⟩) hb).trans hct
        have q2 := (bel.cell (p := ⟨b, off + j * 2 + 1, none⟩) hb).trans hcs
        have HQ := Lib.hid (And.intro q1 q2)
        have HPS := Lib.hid hps'
        have HA1 := Lib.hid hA1
        have HB4 := Lib.hid hb4
        have HONE := Lib.hid hone
        have HPLM := Lib.hid (And.intro hpl hpm)
        have HSH := Lib.hid (show_any hcc)
        have HCC := Lib.hid hcc
        have HFR := Lib.hid hfr
        have HFI2 := Lib.hid (And.intro hfi hln)
        clear hcells hps hps' hA1 hpo hpl hpm hct hcs hone hcc hfr hfi hln bel q1 q2 hb4
        go_wp2_with fail
        go_loopw [7, 8] (fun v i wx => ∃ q : Nat, q ≤ m ∧ i = .int .i64 q ∧ wx.ownsRow wr.heap.size 3 1 v q (shows s.l q) ∧ Below wr.heap.size wr wx) (fun _ i _ => m - (intOf i).toNat)
        case atStart => exact ⟨0, Nat.zero_le _, rfl, World.ownsRow_nil _ _ _ _, Below.refl _ _⟩
        case round =>
          obtain ⟨q, hq, rfl, hown, hbx⟩ := hrel
          have hccx := HCC.out.below hbx
          have hB := hbx.size
          by_cases hlq : q < m
          · have hd : decide ((q : Int) < (m : Int)) = true := by simp; omega
            have HSX := Lib.hid (show_any hccx (q : Int))
            have HSS := Lib.hid (shows_succ s.l q)
            generalize hz : sh s.l (q : Int) = z at *
            have HZ := Lib.hid hz
            clear hccx hz
            go_wp2_with (first
              | (go_at_call 15; refine (HSX.out).mono ?_; rintro e w6 ⟨rfl, rfl⟩)
              | (at_builtin; refine wpl_app 30 3 (.int .i64 0) 8 Try.underlying30 info3 rfl (by decide) rfl _ _ rfl rfl hown hbx hB rfl rfl (by omega) ?_; intro v' w' hown' hbel' hB'))
            exact ⟨⟨q + 1, by omega, by go_num, by rw [HSS.out]; exact hown', hbel'⟩, by simp [intOf]; omega⟩
          · obtain rfl : q = m := by omega
            have hd : decide ((q : Int) < (q : Int)) = false := by simp
            obtain ⟨G, gc, rfl, hGg⟩ := own_shape hown
            obtain ⟨g2, rfl, hg2, hg2', hrow⟩ := hGg (by omega)
            have q1 := hbx.cell (p := ⟨b, off + j * 2, none⟩) (Nat.lt_of_lt_of_le hb BELR.out.size)
            have q2 := hbx.cell (p := ⟨b, off + j * 2 + 1, none⟩) (Nat.lt_of_lt_of_le hb BELR.out.size)
            rw [HQ.out.1] at q1
            rw [HQ.out.2] at q2
            have hpsx : Skews wr A' (min n' 12) f := HPS.out.below hbx
            have hfrx := HFR.out.trans (Fr.of_below hbx)
            have belx := below_then BELR.out hbx
            have hgw : ¬ Two c g g2 := fun h => by
              have k1 := blk_lt HCC.out.blk
              have k2 := blk_lt HCC.out.row
              rcases h with rfl | rfl <;> omega
            have HCX := Lib.hid hccx
            have HTX := Lib.hid (true_any hccx)
            have HROW := Lib.hid hrow
            have HGW := Lib.hid (And.intro hgw hg2')
            have HQX := Lib.hid (And.intro q1 q2)
            have HPSX := Lib.hid hpsx
            have HFRX := Lib.hid hfrx
            have BELX := Lib.hid belx
            clear hccx hbx hown hrow hgw hg2 hg2' q1 q2 hpsx hfrx belx hGg HCC HPS HFR HSH HQ BELR hB
            go_wp2_with fail
            refine (HTX.out).mono ?_
            rintro e w6 ⟨rfl, rfl⟩
            go_wp2_with fail
            refine wp_region_still_tail 12 (by kernel_rfl) (by kernel_rfl) ?_
            change wpStill _ _ (World.drew wr) (fun a' => wpList _ _ _ _ a' (World.drew wr)) _ _
            have hcc := HCX.out.drew
            have hfr := HFRX.out.drew
            have q1 : wr.drew.cell? ⟨b, off + j * 2, none⟩ = some (.int .i64 t) := HQX.out.1
            have q2 : wr.drew.cell? ⟨b, off + j * 2 + 1, none⟩ = some (.slice A' n' cap') := HQX.out.2
            have hps : Skews wr.drew A' (min n' 12) f := HPSX.out
            have belr : Below w.heap.size w wr.drew := BELX.out.drew
            have hrow : ∀ jj, jj < q → wr.drew.cell? ⟨g2, jj, none⟩ = (shows s.l q)[jj]? := HROW.out
            have hgw : ¬ Two c g g2 ∧ g2 < wr.drew.heap.size := HGW.out
            clear HCX HFRX HQX HPSX BELX HROW HGW HTX
            generalize World.drew wr = wd at *
            have HCC := Lib.hid hcc
            have HROW := Lib.hid (And.intro hgw hrow)
            have HPS := Lib.hid hps
            clear hcc hgw hrow hps
            simp only [List.take_succ_cons, List.take_zero, List.drop_succ_cons, List.drop_zero]
            repeat still_step
            still_call (few_still A' n' cap' _ HPLM.out.1 HPLM.out.2)
            refine wpStill_nil ?_
            go_wp2_with fail
            refine (pass_any c g s t A' (min n' 12) cap' f wd HCC.out HFI2.out.1 HPS.out HA1.out (by omega)).mono ?_
            rintro e w4 ⟨rfl, hcc4, hf4⟩
            have hfr4 := hfr.trans hf4
            have belr4 := belr.trans (hf4.below (by have := belr.size; omega) HS2.out)
            have hrow4 : ∀ jj, jj < q → w4.cell? ⟨g2, jj, none⟩ = some (.int .i64 (sh s.l (jj : Int))) := fun jj hjj => by
              have h1 := HROW.out.2 jj hjj
              rw [shows_get s.l q jj hjj] at h1
              exact hf4.cell HROW.out.1.1 h1
            have hg24 : g2 < w4.heap.size := Nat.lt_of_lt_of_le HROW.out.1.2 hf4.size
            have q1 := hf4.cell HB4.out q1
            have q2 := hf4.cell HB4.out q2
            have hfi := HFI2.out.1.step t (min n' 12) f
            have hln := (step_len s t (min n' 12) f).trans HFI2.out.2
            have hrs := rise s t (min n' 12) f
            have hsh := rise_sh s t (min n' 12) f
            have hn0 := HFI2.out.1.now0
            have hb44 : b < w4.heap.size := World.block_lt_of_cell? _ _ q1
            generalize code s t (min n' 12) f = E at *
            generalize step s t (min n' 12) f = s2 at *
            have HCC4 := Lib.hid hcc4
            have HFR4 := Lib.hid hfr4
            have BELR4 := Lib.hid belr4
            have HROW4 := Lib.hid (And.intro hg24 hrow4)
            have HQ4 := Lib.hid (And.intro hb44 q1)
            have HFL := Lib.hid (And.intro hfi hln)
            have HSH := Lib.hid hsh
            clear hcc4 hfr4 belr4 hrow4 hg24 q1 q2 hf4 hfi hln hsh hfr belr HCC HROW HPS HFI2 hb44
            rcases hrs with ⟨rfl, hnow, t1, t2, t3⟩ | ⟨rfl, rfl⟩
            · have HNOW := Lib.hid hnow
              clear hnow
              go_wp2_with fail
              go_loopw [11] (fun i wy => ∃ r : Nat, r ≤ q ∧ i = .int .i64 r ∧ Below w4.heap.size w4 wy) (fun i _ => q - (intOf i).toNat)
              case atStart => exact ⟨0, Nat.zero_le _, rfl, Below.refl _ _⟩
              case round =>
                obtain ⟨r, hr, rfl, hby⟩ := hrel
                by_cases hlr : r < q
                · have hd : decide ((r : Int) < (q : Int)) = true := by simp; omega
                  have hccy := HCC4.out.below hby
                  have hcy := (hby.cell (p := ⟨g2, r, none⟩) HROW4.out.1).trans (HROW4.out.2 r hlr)
                  have hz := HSH.out (r : Int)
                  have hS := fun dd os => (show_any (hccy.below (below_regrown wr dd os)) (r : Int)).mono (R' := fun e w' => e = .returned (.int .i64 (sh s2.l (r : Int))) ∧ Below (Go.Sort.grow (redrawn wr dd) os).heap.size (Go.Sort.grow (redrawn wr dd) os) w') (fun e w' ⟨he, hw⟩ => ⟨he, hw ▸ Below.refl _ _⟩)
                  generalize sh s2.l (r : Int) = z2 at *
                  generalize sh s.l (r : Int) = z at *
                  have hzz : decide (z2 < z) = false := by simp; omega
                  have k1 := fun dd os => cell_regrown hcy dd os
                  have HS := Lib.hid hS
                  have HBY := Lib.hid hby
                  clear hcy hS hby hccy
                  go_wp2_with fail
                  refine wp_region_quiet_below (by kernel_rfl) (by kernel_rfl) ?_
                  repeat (go_big_quiet_step ((go_at_call 15; exact Calls.regrown_of (HS.out _ _))))
                  refine wpQuiet_nil ?_
                  intro w5 hw5
                  have hb5 := below_then HBY.out (near_iff.1 hw5)
                  have HB5 := Lib.hid hb5
                  clear hw5 hb5 HBY HS
                  go_wp2_with fail
                  exact ⟨⟨r + 1, by omega, by go_num, HB5.out⟩, by simp [intOf]; omega⟩
                · have hd : decide ((r : Int) < (q : Int)) = false := by simp; omega
                  have hccy := HCC4.out.below hby
                  have hbq := HQ4.out.1
                  have hqy := (hby.cell (p := ⟨b, off + j * 2, none⟩) HQ4.out.1).trans HQ4.out.2
                  have hS := fun dd os => (true_any (hccy.below (below_regrown wr dd os))).mono (R' := fun e w' => e = .returned (.int .i64 (s.now + t)) ∧ Below (Go.Sort.grow (redrawn wr dd) os).heap.size (Go.Sort.grow (redrawn wr dd) os) w') (fun e w' ⟨he, hw⟩ => ⟨by rw [he, HNOW.out], hw ▸ Below.refl _ _⟩)
                  have k1 := fun dd os => cell_regrown hqy dd os
                  have HS := Lib.hid hS
                  have HBY := Lib.hid hby
                  have HCCY := Lib.hid hccy
                  have HFRY := Lib.hid (HFR4.out.trans (Fr.of_below hby))
                  clear hqy hS hby hccy
                  generalize hnw : s.now = nw at *
                  have HNW := Lib.hid hnw
                  clear hnw
                  have hne : ((nw + t) != (nw + t)) = false := by simp
                  go_wp2_with fail
                  refine wp_region_quiet_below (by kernel_rfl) (by kernel_rfl) ?_
                  repeat (go_big_quiet_step ((go_at_call 13; exact Calls.regrown_of (HS.out _ _))))
                  refine wpQuiet_nil ?_
                  intro w5 hw5
                  have hb5 := near_iff.1 hw5
                  have hcc5 := HCCY.out.below hb5
                  have hfr5 := HFRY.out.trans (Fr.of_below hb5)
                  have HCC5 := Lib.hid (And.intro hcc5 hfr5)
                  clear hw5 hb5 HBY HS hcc5 hfr5 HCCY HFRY
                  go_wp2_with fail
                  exact ⟨⟨j + 1, s2, by omega, by go_num, HFL.out.1, HFL.out.2, HCC5.out.1, HCC5.out.2⟩, by simp [intOf]; omega⟩
            · go_wp2_with fail
              go_loopw [11] (fun i wy => ∃ r : Nat, r ≤ q ∧ i = .int .i64 r ∧ Below w4.heap.size w4 wy) (fun i _ => q - (intOf i).toNat)
              case atStart => exact ⟨0, Nat.zero_le _, rfl, Below.refl _ _⟩
              case round =>
                obtain ⟨r, hr, rfl, hby⟩ := hrel
                by_cases hlr : r < q
                · have hd : decide ((r : Int) < (q : Int)) = true := by simp; omega
                  have hccy := HCC4.out.below hby
                  have hcy := (hby.cell (p := ⟨g2, r, none⟩) HROW4.out.1).trans (HROW4.out.2 r hlr)
                  have hS := fun dd os => (show_any (hccy.below (below_regrown wr dd os)) (r : Int)).mono (R' := fun e w' => e = .returned (.int .i64 (sh s2.l (r : Int))) ∧ Below (Go.Sort.grow (redrawn wr dd) os).heap.size (Go.Sort.grow (redrawn wr dd) os) w') (fun e w' ⟨he, hw⟩ => ⟨he, hw ▸ Below.refl _ _⟩)
                  generalize sh s2.l (r : Int) = z at *
                  have hzz : decide (z < z) = false := by simp
                  have hz2 : (z != z) = false := by simp
                  have k1 := fun dd os => cell_regrown hcy dd os
                  have HS := Lib.hid hS
                  have HBY := Lib.hid hby
                  clear hcy hS hby hccy
                  go_wp2_with fail
                  refine wp_region_quiet_below (by kernel_rfl) (by kernel_rfl) ?_
                  repeat (go_big_quiet_step ((go_at_call 15; exact Calls.regrown_of (HS.out _ _))))
                  refine wpQuiet_nil ?_
                  intro w5 hw5
                  have hb5 := below_then HBY.out (near_iff.1 hw5)
                  have HB5 := Lib.hid hb5
                  clear hw5 hb5 HBY HS
                  go_wp2_with fail
                  exact ⟨⟨r + 1, by omega, by go_num, HB5.out⟩, by simp [intOf]; omega⟩
                · have hd : decide ((r : Int) < (q : Int)) = false := by simp; omega
                  have hccy := HCC4.out.below hby
                  have hbq := HQ4.out.1
                  have hqy := (hby.cell (p := ⟨b, off + j * 2, none⟩) HQ4.out.1).trans HQ4.out.2
                  have hS := fun dd os => (true_any (hccy.below (below_regrown wr dd os))).mono (R' := fun e w' => e = .returned (.int .i64 s2.now) ∧ Below (Go.Sort.grow (redrawn wr dd) os).heap.size (Go.Sort.grow (redrawn wr dd) os) w') (fun e w' ⟨he, hw⟩ => ⟨he, hw ▸ Below.refl _ _⟩)
                  have k1 := fun dd os => cell_regrown hqy dd os
                  have HS := Lib.hid hS
                  have HBY := Lib.hid hby
                  have HCCY := Lib.hid hccy
                  have HFRY := Lib.hid (HFR4.out.trans (Fr.of_below hby))
                  clear hqy hS hby hccy
                  generalize hnw : s2.now = nw at *
                  have HNW := Lib.hid hnw
                  clear hnw
                  have hne : ((nw) != (nw)) = false := by simp
                  go_wp2_with fail
                  refine wp_region_quiet_below (by kernel_rfl) (by kernel_rfl) ?_
                  repeat (go_big_quiet_step ((go_at_call 13; exact Calls.regrown_of (HS.out _ _))))
                  refine wpQuiet_nil ?_
                  intro w5 hw5
                  have hb5 := near_iff.1 hw5
                  have hcc5 := HCCY.out.below hb5
                  have hfr5 := HFRY.out.trans (Fr.of_below hb5)
                  have HCC5 := Lib.hid (And.intro hcc5 hfr5)
                  clear hw5 hb5 HBY HS hcc5 hfr5 HCCY HFRY
                  go_wp2_with fail
                  exact ⟨⟨j + 1, s2, by omega, by go_num, HFL.out.1, HFL.out.2, by rw [HNW.out]; exact HCC5.out.1, HCC5.out.2⟩, by simp [intOf]; omega⟩
      · have hfr' := BELR.out
        clear hcc hfr HP
        by_cases hlt1 : j < n
        · have hd1 : decide ((j : Int) < (n : Int)) = true := by simp; omega
          have hd2 : decide ((j : Int) < 30) = false := by simp; omega
          go_wp2_with (go_at_call 9; refine (lives_any _).mono ?_; rintro e w7 ⟨rfl, hb7⟩)
          go_ret
          exact ⟨rfl, below_then hfr' hb7⟩
        · have hd1 : decide ((j : Int) < (n : Int)) = false := by simp; omega
          go_wp2_with (go_at_call 9; refine (lives_any _).mono ?_; rintro e w7 ⟨rfl, hb7⟩)
          go_ret
          exact ⟨rfl, below_then hfr' hb7⟩
  · have hno : nn < 1 ∨ 9 < nn := by omega
    clear hp
    rcases hno with k1 | k1
    all_goals
      go_enter Try.func4, Try.ntmps4
      go_wp2_with fail
      refine (new_no nn _ (by omega)).mono ?_
      rintro e w1 ⟨rfl, rfl⟩
      go_wp2_with (go_at_call 9; refine (lives_any _).mono ?_; rintro e w7 ⟨rfl, hb7⟩)
      go_ret
      exact ⟨rfl, hb7⟩
/-! ### THE ROW -/
set_option maxRecDepth 100000 in
theorem clockRises_lifted (os : Os) (started : os.Started) (H : Type) (enc : TypeId × Value → H) :
    ReturnsInHanded {} Try.checked os 4 .any (Rows.clockRisesSpec.pre6 enc Try.prog Try.f4 Rows.clockRisesRow.domain false) (Rows.clockRisesSpec.post enc Try.prog Try.f4 false true false false) := by
  refine returnsInHanded_of_change (C := Try.checked) own started (by kernel_rfl) Try.func4
    (ChangeSpec.witness6 (enc := enc) (C := Try.checked) false ⟨#[], #[.int .i64 0, .slice none 0 0], []⟩ 8 (by kernel_rfl) (by kernel_rfl) (by kernel_rfl) (by kernel_rfl)) ?_
  intro W base args ds gs before hval0 hW _ _
  have hval : ∀ (j : Nat) t v, Try.f4.params[j]? = some t → args[j]? = some v → Value.okWide Try.prog W .any base t v := hval0
  have hW' := hW
  obtain ⟨p, q, hA0, hV, rfl, _, _⟩ := hW
  have hA : DataW.TrodAll enc Try.prog W 0 (fun _ => true) true Try.f4.params.toList args.toList ds p := hA0
  rw [Try.params4] at hA hval
  obtain ⟨v0, vs0, d0, ds0, p0, q0, hargs, rfl, rfl, h0, r0⟩ := trodAll_cons hA
  obtain ⟨v1, vs1, d1, ds1, p1, q1, rfl, rfl, rfl, h1, r1⟩ := trodAll_cons r0
  obtain ⟨rfl, rfl, rfl⟩ := trodAll_nil r1
  obtain rfl : args = #[v0, v1] := by cases args; simp_all
  obtain ⟨rfl, rfl⟩ := trodVars_none hV
  obtain ⟨a0, rfl, rfl, rfl, w0⟩ := open_int Try.underlying3 (hval 0 3 v0 rfl rfl) h0
  have k1 := h1
  have lt1 : ∀ x ∈ p1, x.block < W.heap.size := by obtain ⟨m, hm⟩ := k1; exact DataW.trod_lt m _ _ _ hm
  obtain ⟨A1, n1, c1, q1, rfl, le1, mx1, w1⟩ := open_passes (hval 1 22 v1 rfl rfl) h1
  clear hA0 hval0
  refine (lawRises a0 A1 n1 c1 q1 W le1 mx1 w1).mono fun e W' ⟨he, bel⟩ => ?_
  subst he
  exact ⟨_, rfl, _, _, _, [], _, [], hW', trodAll_mk1 (shut_bool Try.underlying4 _), (trodAll_cons_mk (shut_int Try.underlying3 w0) (trodAll_cons_mk (Below.trod laidOut (by kernel_rfl) (of_decide_eq_true (by kernel_rfl)) k1 bel lt1) trodAll_mk0)), rfl, bel.frame _, fun h => by cases h⟩
theorem clockRises_over : Rows.clockRisesRow.holds Try.pinned (OpenSpec.ofChange Rows.clockRisesSpec) :=
  OpenClaim.holds_of_wide 4 Try.f4 rfl rfl rfl rfl rfl rfl rfl ⟨rfl, rfl, rfl, rfl, rfl⟩ rfl rfl rfl rfl rfl (by kernel_rfl) Try.func4 (by kernel_rfl)
    (of_decide_eq_true (by kernel_rfl)) (by unfold Func.isWrapper; first | (rw [if_pos (by decide +kernel)]; kernel_rfl) | (rw [if_neg (by decide +kernel)]; exact ⟨rfl, rfl⟩))
    (fun os started H enc _ => clockRises_lifted os started H enc)
/-- THE STATEMENT. -/
theorem clockRises_holds : Rows.ClockRisesSaid := clockRises_over
end Go.Proofs.Yteodeemghhbfpaa

/-
  WALKS: Pass of the reference: tick by tick.
-/
import Derived.Test.YteodeemghhbfpaaRef
namespace Go.Proofs.Yteodeemghhbfpaa
open Go.RowKit
/-- Whether the bound is still kept behind some of the ticks. -/
def kp (kept : Bool) (f : Nat → Int) (n τ : Nat) : Bool := if τ = 0 then kept else kept && !anyFar 1 f n
/-- .. and behind some of the clocks of one tick. -/
def ki (K : Bool) (f : Nat → Int) (n i : Nat) : Bool := K && !anyFar 1 f (min i n)
theorem ki_zero (K : Bool) (f : Nat → Int) (n : Nat) : ki K f n 0 = K := by simp [ki, anyFar]
theorem ki_in {K : Bool} {f : Nat → Int} {n i : Nat} (h : i < n) : ki K f n (i + 1) = (ki K f n i && !far 1 (f i)) := by
  unfold ki
  rw [show min (i + 1) n = i + 1 from by omega, show min i n = i from by omega, anyFar_succ]
  cases K <;> cases anyFar 1 f i <;> cases far 1 (f i) <;> rfl
theorem ki_out {K : Bool} {f : Nat → Int} {n i : Nat} (h : n ≤ i) : ki K f n (i + 1) = ki K f n i := by
  unfold ki
  rw [show min (i + 1) n = n from by omega, show min i n = n from by omega]
theorem ki_all {kept : Bool} {f : Nat → Int} {n m τ : Nat} (h : n ≤ m) : ki (kp kept f n τ) f n m = kp kept f n (τ + 1) := by
  unfold ki kp
  rw [show min m n = n from by omega]
  rw [if_neg (show ¬ τ + 1 = 0 by omega)]
  split
  · rfl
  · cases kept <;> cases anyFar 1 f n <;> rfl
theorem rate_bd {f : Nat → Int} {n : Nat} (h : anyFar 8 f n = false) (i : Nat) : 0 ≤ rate f n i ∧ rate f n i ≤ 16 := by
  unfold rate
  split
  · rename_i hk
    have := far_bd (far_of_any h hk)
    omega
  · omega
theorem mid_bd {f : Nat → Int} {n : Nat} (h : anyFar 8 f n = false) {l : List Int} (hp : ∀ i, 0 ≤ l.getD i 0 ∧ l.getD i 0 ≤ 17592186044416) (τ : Nat) (ht : τ ≤ 64) (k i : Nat) : 0 ≤ (mid τ f n l k).getD i 0 ∧ (mid τ f n l k).getD i 0 ≤ 17592186045440 := by
  by_cases hi : i < l.length
  · rw [mid_get _ _ _ _ _ _ hi]
    have := hp i
    split
    · have hr := rate_bd h i
      have h1 : 0 ≤ (τ : Int) * rate f n i := Int.mul_nonneg (by omega) hr.1
      have h2 : (τ : Int) * rate f n i ≤ 64 * rate f n i := Int.mul_le_mul_of_nonneg_right (by omega) hr.1
      omega
    · omega
  · have : (mid τ f n l k).getD i 0 = 0 := by rw [List.getD_eq_getElem?_getD, List.getElem?_eq_none (by rw [mid_len]; omega)]; rfl
    omega
theorem CAt.drew {w : World} {T : TypeId} {c g : Nat} {l : List Int} {now : Int} {fl : Bool} (h : CAt w T c g l now fl) : CAt w.drew T c g l now fl := ⟨h.blk, h.row, h.ne⟩
set_option maxRecDepth 100000 in
set_option maxHeartbeats 8000000 in
/-- One tick of the inner loop: from L to what it is behind the tick. -/
theorem rpass_ok (c g : Nat) (l : List Int) (now : Int) (fl : Bool) (t : Nat) (A : Option Addr) (n cap : Nat) (f : Nat → Int) (w : World) (hc : CAt w 36 c g l now fl) (hs : Skews w A n f) (hA : 0 < n → ∀ a, A = some a → ¬ Two c g a.block) (hn : n ≤ 1000000)
    (hnow : 0 ≤ now ∧ now ≤ 1099511627776) (hl : l.length ≤ 9) (hp : ∀ i, 0 ≤ l.getD i 0 ∧ l.getD i 0 ≤ 17592186044416) (hbad : ¬ Bad t n l.length f now) :
    Calls Try.prog 12 #[.pointer (some ⟨c, 0, none⟩), .int .i64 (t : Int), .slice A n cap] w fun e w' => e = .returned (.int .i64 0) ∧ CAt w' 36 c g (mid t f n l l.length) (now + t) (fl && !anyFar 1 f n) ∧ Fr (Two c g) w w' := by
  have c0 := hc.c0
  have c1 := hc.c1
  unfold Bad at hbad
  simp only [not_or, Int.not_lt, Nat.not_lt, Bool.not_eq_true] at hbad
  obtain ⟨ht1, ht2, hnm, hf8, hle⟩ := hbad
  have HF8 := Lib.hid hf8
  have HM0 := Lib.hid (mid_none f n l l.length)
  have HBD := Lib.hid (fun τ h => mid_bd hf8 hp τ h l.length)
  have HMM := Lib.hid (fun τ : Int => mid_mid τ f n l)
  have HK : Hid (kp fl f n t = (fl && !anyFar 1 f n)) := by unfold kp; rw [if_neg (by omega)]; rfl
  have hlen : ∀ τ k, (mid τ f n l k).length = l.length := fun τ k => mid_len τ f n l k
  have HL := Lib.hid hlen
  generalize hm : l.length = m at *
  have HM := Lib.hid hm
  have HP := Lib.hid hp
  have HS := Lib.hid hs
  have HA := Lib.hid hA
  clear hs hm hf8 hp hA hlen
  obtain ⟨hn1, hn2⟩ := hnow
  have d1 : decide ((t : Int) < 1) = false := by simp; omega
  have d2 : decide (64 < (t : Int)) = false := by simp; omega
  have d3 : decide (m < n) = false := by simp; omega
  have d5 : decide (1099511627776 < now + (t : Int)) = false := by simp; omega
  go_enter Try.func12, Try.ntmps12
  go_wp2
  go_loop [7] (fun i => ∃ k : Nat, k ≤ n ∧ i = .int .i64 k) (fun i => n - (intOf i).toNat)
  case atStart => exact ⟨0, Nat.zero_le _, rfl⟩
  case round =>
    obtain ⟨k, hk, rfl⟩ := hrel
    by_cases hlt : k < n
    · have hd : decide ((k : Int) < (n : Int)) = true := by simp; omega
      obtain ⟨b, off, rfl, _, hcell⟩ := HS.out (by omega)
      have hx := hcell k hlt
      have hfb := far_bd (far_of_any HF8.out hlt)
      clear hcell
      generalize f k = y at *
      obtain ⟨hy1, hy2⟩ := hfb
      have e1 : decide (y < -8) = false := by simp; omega
      have e2 : decide (8 < y) = false := by simp; omega
      go_wp2
      exact ⟨⟨k + 1, by omega, by go_num⟩, by simp [intOf]; omega⟩
    · obtain rfl : n = k := by omega
      clear c0 c1
      go_wp2
      go_loopw [8] (fun i wr => ∃ τ : Nat, τ ≤ t ∧ i = .int .i64 τ ∧ CAt wr 36 c g (mid τ f n l m) (now + τ) (kp fl f n τ) ∧ Fr (Two c g) w wr) (fun i _ => t - (intOf i).toNat)
      case atStart => exact ⟨0, Nat.zero_le _, rfl, by rw [show ((0 : Nat) : Int) = 0 from rfl, HM0.out, Int.add_zero]; exact hc, Fr.refl _ _⟩
      case round =>
        obtain ⟨τ, hτ, rfl, hcr, hfr⟩ := hrel
        by_cases hlt2 : τ < t
        · have hd2 : decide ((τ : Int) < (t : Int)) = true := by simp; omega
          have r1 := hcr.c1
          have f1 := hcr.f 1
          have HN := Lib.hid (hcr.setN (now + τ + 1))
          have HFN := Lib.hid (hfr.setCell (b := c) (i := 1) (.inl (.inl rfl)) (.int .i64 (now + τ + 1)))
          have hLl := HL.out (τ : Int) m
          have hLb := HBD.out τ (by omega)
          have hLm := HMM.out (τ : Int)
          rw [hLl] at hLm
          have hKm : ki (kp fl f n τ) f n m = kp fl f n (τ + 1) := ki_all hnm
          have e1 : now + (τ : Int) + 1 = now + ((τ + 1 : Nat) : Int) := by omega
          have HE := Lib.hid e1
          have HLl := Lib.hid hLl
          have HLb := Lib.hid hLb
          have HLm := Lib.hid hLm
          have HKm := Lib.hid hKm
          clear hcr hfr hLl hLb hLm hKm e1
          generalize mid (τ : Int) f n l m = L at *
          generalize kp fl f n τ = K at *
          go_wp2
          obtain ⟨wo, hwo⟩ : ∃ wo : World, wo = wr := ⟨_, rfl⟩
          subst hwo
          go_loopw [9] (fun i ws => ∃ q : Nat, q ≤ m ∧ i = .int .i64 q ∧ CAt ws 36 c g (mid 1 f n L q) (now + τ + 1) (ki K f n q) ∧ Fr (Two c g) w ws) (fun i _ => m - (intOf i).toNat)
          case atStart => exact ⟨0, Nat.zero_le _, rfl, by rw [mid_zero, ki_zero]; exact HN.out, HFN.out⟩
          case round =>
            clear HN HFN
            obtain ⟨q, hq, rfl, hcs, hfs⟩ := hrel
            have s0 := hcs.c0
            rw [mid_len, HLl.out] at s0
            by_cases hlt3 : q < m
            · have hd3 : decide ((q : Int) < (m : Int)) = true := by simp; omega
              have sg := hcs.cg q (by rw [mid_len, HLl.out]; exact hlt3)
              rw [mid_get _ _ _ _ _ _ (by rw [HLl.out]; exact hlt3), if_neg (Nat.lt_irrefl q)] at sg
              have sgf := hcs.fg q
              obtain ⟨hx0, hx1⟩ := HLb.out q
              have hms := mid_succ 1 f n L q
              rw [Int.one_mul] at hms
              generalize L.getD q 0 = x at *
              have h1 := (hcs.setG q (x + 8)).drew
              have hf1 := (hfs.setCell (b := g) (i := q) (.inl (.inr rfl)) (.int .i64 (x + 8))).drew
              have t0 := h1.c0
              rw [List.length_set, mid_len, HLl.out] at t0
              by_cases hqn : q < n
              · have hd4 : decide ((q : Int) < (n : Int)) = true := by simp; omega
                obtain ⟨b, off, rfl, hblt, hcell⟩ := HS.out (by omega)
                have hfy := far_bd (far_of_any HF8.out hqn)
                have k0 := hfs.cell (HA.out (by omega) _ rfl) (hcell q hqn)
                have k1 := hf1.cell (HA.out (by omega) _ rfl) (hcell q hqn)
                have t1 := h1.cg q (by rw [List.length_set, mid_len, HLl.out]; exact hlt3)
                rw [List.getD_eq_getElem?_getD, List.getElem?_set_self (by rw [mid_len, HLl.out]; exact hlt3), Option.getD_some] at t1
                have tf1 := h1.fg q
                have hfar : ∀ b, far 1 (f q) = b → Hid (far 1 (f q) = b) := fun _ h => h
                have hki := ki_in (K := K) (f := f) hqn
                rw [show rate f n q = 8 + f q from if_pos hqn] at hms
                have h2 := (h1.setG q (x + 8 + f q)).drew
                have hf2 := (hf1.setCell (b := g) (i := q) (.inl (.inr rfl)) (.int .i64 (x + 8 + f q))).drew
                rw [World.setCell_drew] at h2 hf2
                have k2 := hf2.cell (HA.out (by omega) _ rfl) (hcell q hqn)
                rw [List.set_set, show x + 8 + f q = x + (8 + f q) from by omega, ← hms] at h2
                have v0 := h2.c0
                rw [mid_len, HLl.out] at v0
                have vf2 := h2.f 2
                have v2 := h2.c2
                obtain ⟨hy1, hy2⟩ := hfy
                have hy3 : x + (8 + f q) = x + 8 + f q := by omega
                rw [hy3] at h2 v0 vf2 v2
                have H2 := Lib.hid h2
                have HF2 := Lib.hid hf2
                have HMS := Lib.hid hms
                have HKI := Lib.hid hki
                clear h1 hf1 h2 hf2 hms hki hcs hfs hcell hy3
                by_cases e1 : f q < -1
                · have e1' : decide (f q < -1) = true := by simpa using e1
                  have HFar := hfar true (by unfold far; rw [e1']; rfl)
                  clear hfar
                  generalize f q = y at *
                  have H3 := Lib.hid (H2.out.setF false)
                  have HF3 := Lib.hid (HF2.out.setCell (b := c) (i := 2) (.inl (.inl rfl)) (.bool false))
                  have hk3 : ki K f n (q + 1) = false := by rw [HKI.out, HFar.out]; simp
                  have HK3 := Lib.hid hk3
                  clear H2 HF2 HKI HFar hk3
                  go_wp2
                  go_region
                  all_goals go_wp2
                  all_goals go_region
                  all_goals go_wp2
                  all_goals exact ⟨⟨q + 1, by omega, by go_num, by rw [HK3.out]; exact H3.out, HF3.out⟩, by simp [intOf]; omega⟩
                · have e1' : decide (f q < -1) = false := by simpa using e1
                  by_cases e2 : 1 < f q
                  · have e2' : decide (1 < f q) = true := by simpa using e2
                    have HFar := hfar true (by unfold far; rw [e1', e2']; rfl)
                    clear hfar
                    generalize f q = y at *
                    have H3 := Lib.hid (H2.out.setF false)
                    have HF3 := Lib.hid (HF2.out.setCell (b := c) (i := 2) (.inl (.inl rfl)) (.bool false))
                    have hk3 : ki K f n (q + 1) = false := by rw [HKI.out, HFar.out]; simp
                    have HK3 := Lib.hid hk3
                    clear H2 HF2 HKI HFar hk3
                    go_wp2
                    go_region
                    all_goals go_wp2
                    all_goals go_region
                    all_goals go_wp2
                    all_goals exact ⟨⟨q + 1, by omega, by go_num, by rw [HK3.out]; exact H3.out, HF3.out⟩, by simp [intOf]; omega⟩
                  · have e2' : decide (1 < f q) = false := by simpa using e2
                    have HFar := hfar false (by unfold far; rw [e1', e2']; rfl)
                    clear hfar
                    generalize f q = y at *
                    have hk3 : ki K f n (q + 1) = ki K f n q := by rw [HKI.out, HFar.out]; simp
                    have HK3 := Lib.hid hk3
                    clear HKI HFar hk3
                    go_wp2
                    go_region
                    all_goals go_wp2
                    all_goals go_region
                    all_goals go_wp2
                    all_goals exact ⟨⟨q + 1, by omega, by go_num, by rw [HK3.out]; exact H2.out, HF2.out⟩, by simp [intOf]; omega⟩
              · have hd4 : decide ((q : Int) < (n : Int)) = false := by simp; omega
                rw [show rate f n q = 8 from if_neg hqn] at hms
                have H1 := Lib.hid h1
                have HF1 := Lib.hid hf1
                have HMS := Lib.hid hms
                have HKo := Lib.hid (ki_out (K := K) (f := f) (by omega : n ≤ q))
                clear h1 hf1 hms hcs hfs
                go_wp2
                go_region
                all_goals go_wp2
                all_goals exact ⟨⟨q + 1, by omega, by go_num, by rw [HMS.out, HKo.out]; exact H1.out, HF1.out⟩, by simp [intOf]; omega⟩
            · obtain rfl : m = q := by omega
              go_wp2
              exact ⟨⟨τ + 1, by omega, by go_num, by rw [← HE.out, ← HKm.out]; rw [HLm.out] at hcs; exact hcs, hfs⟩, by simp [intOf]; omega⟩
        · obtain rfl : t = τ := by omega
          go_wp2
          go_ret
          exact ⟨rfl, by rw [HK.out] at hcr; exact hcr, hfr⟩
end Go.Proofs.Yteodeemghhbfpaa

/-
  The reference's Hash.
-/
import Derived.Test.YthhcgdmpbihdnaaHash
namespace Go.Proofs.Ythhcgdmpbihdnaa
open Go.RowKit
theorem xor_lt (h b : Nat) (hh : h < 4294967296) (hb : b < 256) : h ^^^ b < 4294967296 := by
  have := Nat.xor_lt_two_pow (x := h) (y := b) (n := 32) (by omega) (by omega)
  omega
set_option maxRecDepth 100000 in
set_option maxHeartbeats 4000000 in
theorem rhash_any (s : ByteArray) (hs : s.size ≤ 9223372036854775807) (w : World) : Calls Try.prog 33 #[.string s] w fun e w' => e = .returned (.int .i64 (hash s)) ∧ Below w.heap.size w w' := by
  go_enter Try.func33, Try.ntmps33
  go_wp2
  go_loopw [3, 4] (fun y i wr => ∃ k : Nat, k ≤ s.size ∧ i = .int .i64 k ∧ y = .int .i64 (hk s k : Nat) ∧ Below w.heap.size w wr) (fun _ i _ => s.size - (intOf i).toNat)
  case atStart => exact ⟨0, Nat.zero_le _, rfl, rfl, Below.refl _ _⟩
  case round =>
    obtain ⟨k, hk1, rfl, rfl, hbel⟩ := hrel
    have hlt1 := hk_lt s k
    by_cases hlt : k < s.size
    · have hd : decide ((k : Int) < (s.size : Int)) = true := by simp; omega
      have hbi := byteAt_is s k hlt
      have hbl := byteAt_lt s k
      have hst : hk s (k + 1) = (hk s k ^^^ byteAt s k) * 16777619 % 4294967296 := rfl
      have hxl := xor_lt _ _ hlt1 hbl
      have hhi := xor_high (hk s k) _ hbl
      have hlow := fun q => xor_low (hk s k) (byteAt s k) q
      have hB1 := fun q hq W => bit_any (hk s k) q hq hlt1 W
      have hB2 := fun q hq W => bit_any (byteAt s k) q hq (by omega) W
      generalize hk s k = h at *
      generalize byteAt s k = b at *
      have HBI := Lib.hid hbi
      have HST := Lib.hid hst
      have HLOW := Lib.hid hlow
      have HB1 := Lib.hid hB1
      have HB2 := Lib.hid hB2
      have HBEL := Lib.hid hbel
      have HHI := Lib.hid hhi
      clear hbi hst hlow hB1 hB2 hbel hhi
      generalize h ^^^ b = x at *
      go_wp2
      go_loopw [5, 6, 7] (fun y p i wx => ∃ q : Nat, q ≤ 8 ∧ i = .int .i64 q ∧ p = .int .i64 ((2 ^ q : Nat) : Int) ∧ y = .int .i64 ((x % 2 ^ q : Nat) : Int) ∧ Below w.heap.size w wx) (fun _ _ i _ => 8 - (intOf i).toNat)
      case atStart => exact ⟨0, Nat.zero_le _, rfl, rfl, by rw [show x % 2 ^ 0 = 0 from by omega]; rfl, HBEL.out⟩
      case round =>
        obtain ⟨q, hq, rfl, rfl, rfl, hbx⟩ := hrel
        by_cases hlq : q < 8
        · have hdq : decide ((q : Int) < 8) = true := by simp; omega
          have hlw := HLOW.out q
          have hpq : 2 ^ q ≤ 128 := Nat.le_trans (Nat.pow_le_pow_right (by decide) (show q ≤ 7 by omega)) (by decide)
          have hxq : x % 2 ^ q < 2 ^ q := Nat.mod_lt _ (Nat.pow_pos (by decide))
          have hp2 : (2 ^ (q + 1) : Nat) = 2 ^ q * 2 := Nat.pow_succ ..
          have hK1 := fun dd os => (HB1.out q (by omega) (Go.Sort.grow (redrawn wr dd) os)).mono (R' := fun e w' => e = .returned (.int .i64 (bitAt h q : Nat)) ∧ Below (Go.Sort.grow (redrawn wr dd) os).heap.size (Go.Sort.grow (redrawn wr dd) os) w') (fun e w' ⟨he, hw⟩ => ⟨he, hw ▸ Below.refl _ _⟩)
          have hK2 := fun dd os => (HB2.out q (by omega) (Go.Sort.grow (redrawn wr dd) os)).mono (R' := fun e w' => e = .returned (.int .i64 (bitAt b q : Nat)) ∧ Below (Go.Sort.grow (redrawn wr dd) os).heap.size (Go.Sort.grow (redrawn wr dd) os) w') (fun e w' ⟨he, hw⟩ => ⟨he, hw ▸ Below.refl _ _⟩)
          generalize bitAt h q = d1 at *
          generalize bitAt b q = d2 at *
          generalize hY2 : x % 2 ^ (q + 1) = y2 at *
          generalize x % 2 ^ q = y1 at *
          generalize hPP : (2 ^ (q + 1) : Nat) = P2 at *
          generalize (2 ^ q : Nat) = P at *
          have HPP := Lib.hid hPP
          have HY2 := Lib.hid hY2
          have HP2 := Lib.hid hp2
          have HLW := Lib.hid hlw
          have HK1 := Lib.hid hK1
          have HK2 := Lib.hid hK2
          have HBX := Lib.hid hbx
          clear hPP hY2 hp2 hlw hK1 hK2 hbx
          have hbi := HBI.out
          have hbi64 : b < 256 := hbl
          by_cases hdd : d1 = d2
          · have hne : ((d1 : Int) != (d2 : Int)) = false := by simp [hdd]
            have hlw2 : y2 = y1 := by rw [HLW.out, if_pos hdd]; rfl
            have HL2 := Lib.hid hlw2
            clear hlw2 hdd
            go_wp2
            refine wp_region_quiet_below (by kernel_rfl) (by kernel_rfl) ?_
            go_big_quiet_step (fail)
            go_big_quiet_step (fail)
            go_big_quiet_step ((go_at_call 43; exact Calls.regrown_of (HK1.out _ _)))
            go_big_quiet_step (fail)
            go_big_quiet_step (fail)
            go_big_quiet_step (fail)
            go_big_quiet_step (fail)
            go_big_quiet_step (fail)
            go_big_quiet_step ((go_at_call 43; exact Calls.regrown_of (HK2.out _ _)))
            go_big_quiet_step (fail)
            refine wpQuiet_nil ?_
            intro w5 hw5
            have hb5 := below_then HBX.out (near_iff.1 hw5)
            clear hw5
            go_wp2
            exact ⟨⟨q + 1, by omega, by go_num, int_eq (by rw [HPP.out, HP2.out]; omega), int_eq (by rw [HPP.out, HY2.out, HL2.out]), hb5⟩, by simp [intOf]; omega⟩
          · have hne : ((d1 : Int) != (d2 : Int)) = true := by simp; omega
            have hlw2 : y2 = y1 + P := by rw [HLW.out, if_neg hdd]
            have HL2 := Lib.hid hlw2
            clear hlw2 hdd
            go_wp2
            refine wp_region_quiet_below (by kernel_rfl) (by kernel_rfl) ?_
            go_big_quiet_step (fail)
            go_big_quiet_step (fail)
            go_big_quiet_step ((go_at_call 43; exact Calls.regrown_of (HK1.out _ _)))
            go_big_quiet_step (fail)
            go_big_quiet_step (fail)
            go_big_quiet_step (fail)
            go_big_quiet_step (fail)
            go_big_quiet_step (fail)
            go_big_quiet_step ((go_at_call 43; exact Calls.regrown_of (HK2.out _ _)))
            go_big_quiet_step (fail)
            refine wpQuiet_nil ?_
            intro w5 hw5
            have hb5 := below_then HBX.out (near_iff.1 hw5)
            clear hw5
            go_wp2
            exact ⟨⟨q + 1, by omega, by go_num, int_eq (by rw [HPP.out, HP2.out]; omega), int_eq (by rw [HPP.out, HY2.out, HL2.out]; omega), hb5⟩, by simp [intOf]; omega⟩
        · obtain rfl : q = 8 := by omega
          have hx8 : x % 2 ^ 8 = x % 256 := rfl
          rw [hx8]
          have hhi2 : (h : Int) - (h : Int) % 256 + ((x % 256 : Nat) : Int) = (x : Int) := by have := HHI.out; omega
          generalize x % 256 = y at *
          have hhm : (h : Int) % 256 ≤ h := by omega
          have hhm0 : 0 ≤ (h : Int) % 256 := by omega
          go_wp2
          exact ⟨⟨k + 1, by omega, by go_num, int_eq (by rw [HST.out]; omega), hbx⟩, by simp [intOf]; omega⟩
    · obtain rfl : k = s.size := by omega
      have hd : decide ((s.size : Int) < (s.size : Int)) = false := by simp
      go_wp2
      go_ret
      exact ⟨ret_int (by unfold hash; omega), hbel⟩
end Go.Proofs.Ythhcgdmpbihdnaa

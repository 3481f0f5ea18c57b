/-
  Hash, of the program and of the reference.
-/
import Derived.Test.YthhcgdmpbihdnaaBase
namespace Go.Proofs.Ythhcgdmpbihdnaa
open Go.RowKit
def byteAt (s : ByteArray) (k : Nat) : Nat := (s.data.getD k 0).toNat
theorem byteAt_lt (s : ByteArray) (k : Nat) : byteAt s k < 256 := (s.data.getD k 0).toNat_lt
theorem byteAt_is (s : ByteArray) (k : Nat) (h : k < s.size) : (s[k]'h).toNat = byteAt s k := by
  unfold byteAt
  have h' : k < s.data.size := h
  rw [Array.getD, dif_pos h']
  rfl
def hk (s : ByteArray) : Nat → Nat
  | 0 => 2166136261
  | k + 1 => ((hk s k ^^^ byteAt s k) * 16777619) % 4294967296
theorem hk_lt (s : ByteArray) : ∀ k, hk s k < 4294967296
  | 0 => by simp [hk]
  | k + 1 => Nat.mod_lt _ (by decide)
def hash (s : ByteArray) : Nat := hk s s.size / 268435456
theorem hash_lt (s : ByteArray) : hash s < 16 := by
  have := hk_lt s s.size
  unfold hash
  omega
theorem xor_step (a b : Nat) (ha : a < 4294967296) (hb : b < 256) : bits BinOp.xor IntKind.u32 (a : Int) ((b : Int) % 4294967296) * 16777619 % 4294967296 = (((a ^^^ b) * 16777619 % 4294967296 : Nat) : Int) := by
  rw [show ((b : Int) % 4294967296) = ((b : Nat) : Int) by omega, u32_xor_nat a b ha (by omega)]
  omega
set_option maxHeartbeats 1000000 in
theorem hash_any (s : ByteArray) (hs : s.size ≤ 9223372036854775807) (w : World) : Calls Try.prog 42 #[.string s] w fun e w' => e = .returned (.int .i64 (hash s)) ∧ w = w' := by
  go_enter Try.func42, Try.ntmps42
  go_wp2
  go_loop [3, 7] (fun y i => ∃ k : Nat, k ≤ s.size ∧ i = .int .i64 k ∧ y = .int .u32 (hk s k : Nat)) (fun _ i => s.size - (intOf i).toNat)
  case atStart => exact ⟨0, Nat.zero_le _, rfl, rfl⟩
  case round =>
    obtain ⟨k, hk1, rfl, rfl⟩ := hrel
    have hlt1 := hk_lt s k
    by_cases hlt : k < s.size
    · have hd : decide ((k : Int) < (s.size : Int)) = true := by simp; omega
      have hx := xor_step (hk s k) (byteAt s k) hlt1 (byteAt_lt s k)
      have hst : hk s (k + 1) = (hk s k ^^^ byteAt s k) * 16777619 % 4294967296 := rfl
      have hbi := byteAt_is s k hlt
      have HX := Lib.hid hx
      have HST := Lib.hid hst
      have HBI := Lib.hid hbi
      clear hx hst hbi
      go_wp2
      exact ⟨⟨k + 1, by omega, by go_num, int_eq (by rw [HBI.out, HX.out, HST.out])⟩, by simp [intOf]; omega⟩
    · obtain rfl : k = s.size := by omega
      go_wp2
      go_ret
      exact ⟨by unfold hash; rfl, rfl⟩
/-! ### The reference -/
theorem half_step (x j : Nat) : x / 2 ^ j / 2 = x / 2 ^ (j + 1) := by
  rw [Nat.pow_succ, Nat.div_div_eq_div_mul]
def bitAt (n i : Nat) : Nat := n / 2 ^ i % 2
set_option maxHeartbeats 1000000 in
theorem bit_any (n i : Nat) (hi : i ≤ 8) (hn : n < 4294967296) (w : World) : Calls Try.prog 43 #[.int .i64 n, .int .i64 i] w fun e w' => e = .returned (.int .i64 (bitAt n i : Nat)) ∧ w = w' := by
  go_enter Try.func43, Try.ntmps43
  go_wp2
  go_loop [0, 5] (fun y k => ∃ j : Nat, j ≤ i ∧ k = .int .i64 j ∧ y = .int .i64 ((n / 2 ^ j : Nat) : Int)) (fun _ k => i - (intOf k).toNat)
  case atStart => exact ⟨0, Nat.zero_le _, rfl, by simp⟩
  case round =>
    obtain ⟨j, hj, rfl, rfl⟩ := hrel
    have hle : n / 2 ^ j ≤ n := Nat.div_le_self _ _
    have hst := half_step n j
    by_cases hlt : j < i
    · have hd : decide ((j : Int) < (i : Int)) = true := by simp; omega
      generalize hz : n / 2 ^ (j + 1) = z at *
      generalize hy : n / 2 ^ j = y at *
      have HZ := Lib.hid hz
      have HST := Lib.hid hst
      clear hy hst hz
      go_wp2
      exact ⟨⟨j + 1, by omega, by go_num, int_eq (by rw [HZ.out, ← HST.out]; omega)⟩, by simp [intOf]; omega⟩
    · obtain rfl : i = j := by omega
      have hd : decide ((i : Int) < (i : Int)) = false := by simp
      generalize hy : n / 2 ^ i = y at *
      have HY := Lib.hid hy
      clear hy hst
      go_wp2
      go_ret
      exact ⟨ret_int (by unfold bitAt; rw [HY.out]; omega), rfl⟩
theorem xor_low (h b q : Nat) : (h ^^^ b) % 2 ^ (q + 1) = (h ^^^ b) % 2 ^ q + (if bitAt h q = bitAt b q then 0 else 2 ^ q) := by
  have h1 : (h ^^^ b) % 2 ^ (q + 1) = (h ^^^ b) % 2 ^ q + 2 ^ q * ((h ^^^ b) / 2 ^ q % 2) := by rw [Nat.pow_succ, Nat.mod_mul]
  have h2 : (h ^^^ b) / 2 ^ q % 2 = ((h ^^^ b).testBit q).toNat := by rw [Nat.testBit_eq_decide_div_mod_eq]; rcases Nat.mod_two_eq_zero_or_one ((h ^^^ b) / 2 ^ q) with e | e <;> simp [e]
  rw [h1, h2, Nat.testBit_xor, Nat.testBit_eq_decide_div_mod_eq, Nat.testBit_eq_decide_div_mod_eq]
  unfold bitAt
  rcases Nat.mod_two_eq_zero_or_one (h / 2 ^ q) with e | e <;> rcases Nat.mod_two_eq_zero_or_one (b / 2 ^ q) with e' | e' <;> simp [e, e']
theorem xor_high (h b : Nat) (hb : b < 256) : h - h % 256 + (h ^^^ b) % 256 = h ^^^ b := by
  have h1 : (h ^^^ b) / 2 ^ 8 = h / 2 ^ 8 ^^^ b / 2 ^ 8 := Nat.xor_div_two_pow ..
  rw [show b / 2 ^ 8 = 0 by omega, Nat.xor_zero] at h1
  have h2 := Nat.div_add_mod (h ^^^ b) 256
  have h3 := Nat.div_add_mod h 256
  omega
end Go.Proofs.Ythhcgdmpbihdnaa

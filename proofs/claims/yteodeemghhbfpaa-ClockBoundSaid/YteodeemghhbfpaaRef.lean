/-
  WALKS: Pass of the reference.
-/
import Derived.Test.YteodeemghhbfpaaPass3
namespace Go.Proofs.Yteodeemghhbfpaa
open Go.RowKit
set_option maxHeartbeats 4000000 in
theorem rpass_bad (c g : Nat) (l : List Int) (now : Int) (fl : Bool) (t : Int) (A : Option Addr) (n cap : Nat) (f : Nat → Int) (w : World) (hc : CAt w 36 c g l now fl) (hs : Skews w A n f) (hn : n ≤ 1000000)
    (hnow : 0 ≤ now ∧ now ≤ 1099511627776) (ht : -9223372036854775808 ≤ t ∧ t ≤ 9223372036854775807) (hbad : Bad t n l.length f now) :
    Calls Try.prog 12 #[.pointer (some ⟨c, 0, none⟩), .int .i64 t, .slice A n cap] w fun e w' => e = .returned (.int .i64 1) ∧ w = w' := by
  have c0 := hc.c0
  have c1 := hc.c1
  unfold Bad at hbad
  generalize l.length = m at *
  obtain ⟨hn1, hn2⟩ := hnow
  by_cases k1 : t < 1
  · have d1 : decide (t < 1) = true := by simpa using k1
    go_enter Try.func12, Try.ntmps12
    go_wp2
    go_ret
    exact ⟨rfl, rfl⟩
  have d1 : decide (t < 1) = false := by simpa using k1
  by_cases k2 : 64 < t
  · have d2 : decide (64 < t) = true := by simpa using k2
    go_enter Try.func12, Try.ntmps12
    go_wp2
    go_ret
    exact ⟨rfl, rfl⟩
  have d2 : decide (64 < t) = false := by simpa using k2
  by_cases k3 : m < n
  · have d3 : decide (m < n) = true := by simpa using k3
    go_enter Try.func12, Try.ntmps12
    go_wp2
    go_ret
    exact ⟨rfl, rfl⟩
  have d3 : decide (m < n) = false := by simpa using k3
  by_cases k5 : 1099511627776 < now + t
  · have d5 : decide (1099511627776 < now + t) = true := by simpa using k5
    go_enter Try.func12, Try.ntmps12
    go_wp2
    go_ret
    exact ⟨rfl, rfl⟩
  have d5 : decide (1099511627776 < now + t) = false := by simpa using k5
  have hany : anyFar 8 f n = true := by
    rcases hbad with k | k | k | k | k
    · exact absurd k k1
    · exact absurd k k2
    · exact absurd k k3
    · exact k
    · omega
  have HAny := Lib.hid hany
  have HS := Lib.hid hs
  clear hs hbad hany
  go_enter Try.func12, Try.ntmps12
  go_wp2
  go_loop [7] (fun i => ∃ k : Nat, k ≤ n ∧ i = .int .i64 k ∧ ∀ j, j < k → far 8 (f j) = false) (fun i => n - (intOf i).toNat)
  case atStart => exact ⟨0, Nat.zero_le _, rfl, fun j hj => by omega⟩
  case round =>
    obtain ⟨k, hk, rfl, hall⟩ := hrel
    have HA := Lib.hid hall
    clear hall
    by_cases hlt : k < n
    · have hd : decide ((k : Int) < (n : Int)) = true := by simp; omega
      obtain ⟨b, off, rfl, _, hcell⟩ := HS.out (by omega)
      have hx := hcell k hlt
      clear hcell
      have hfar : ∀ b, far 8 (f k) = b → Hid (far 8 (f k) = b) := fun _ h => h
      by_cases e1 : f k < -8
      · have e1' : decide (f k < -8) = true := by simpa using e1
        clear hfar
        generalize f k = y at *
        go_wp2
        go_ret
        exact ⟨rfl, rfl⟩
      · have e1' : decide (f k < -8) = false := by simpa using e1
        by_cases e2 : 8 < f k
        · have e2' : decide (8 < f k) = true := by simpa using e2
          clear hfar
          generalize f k = y at *
          go_wp2
          go_ret
          exact ⟨rfl, rfl⟩
        · have e2' : decide (8 < f k) = false := by simpa using e2
          have HF := hfar false (by unfold far; rw [e1', e2']; rfl)
          clear hfar
          generalize hy : f k = y at *
          have HY := Lib.hid hy
          clear hy
          go_wp2
          exact ⟨⟨k + 1, by omega, by go_num, fun j hj => by
            by_cases e : j = k
            · subst e; rw [HY.out]; exact HF.out
            · exact HA.out j (by omega)⟩, by simp [intOf]; omega⟩
    · have hk16 : k = n := by omega
      subst hk16
      exfalso
      have := HAny.out
      rw [anyFar_no HA.out] at this
      cases this
theorem anyFar_succ (most : Int) (f : Nat → Int) (n : Nat) : anyFar most f (n + 1) = (anyFar most f n || far most (f n)) := by
  simp [anyFar, List.range_succ]
theorem mid_mid (t : Int) (f : Nat → Int) (n : Nat) (l : List Int) : mid 1 f n (mid t f n l l.length) (mid t f n l l.length).length = mid (t + 1) f n l l.length := by
  apply List.ext_getElem
  · simp [mid]
  · intro i h1 h2
    simp only [mid, List.length_map, List.length_range] at h1
    simp [mid, h1, Int.add_mul]
    omega
theorem mid_none (f : Nat → Int) (n : Nat) (l : List Int) (k : Nat) : mid 0 f n l k = l := by
  apply List.ext_getElem
  · simp [mid]
  · intro i h1 h2
    simp only [mid, List.length_map, List.length_range] at h1
    simp [mid, h1]
end Go.Proofs.Yteodeemghhbfpaa

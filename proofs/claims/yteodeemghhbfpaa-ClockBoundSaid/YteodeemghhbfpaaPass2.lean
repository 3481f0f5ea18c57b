/-
  WALKS: Pass of the program: refused, or the clocks go on.
-/
import Derived.Test.YteodeemghhbfpaaPass
namespace Go.Proofs.Yteodeemghhbfpaa
open Go.RowKit
open Go.Sort (grow)
theorem beyond_below (A : Option Addr) (n cap : Nat) (f : Nat → Int) (most : Int) (b0 : Nat) (w : World) (hn : n ≤ 1000000) (h0 : 0 ≤ most) (h1 : most ≤ 100) (hb : w.cell? ⟨b0, 0, none⟩ = some (.slice A n cap)) (hs : Skews w A n f) :
    Calls Try.prog 17 #[.int .i64 most, .pointer (some ⟨b0, 0, none⟩)] w fun e w' => e = .returned (.bool (anyFar most f n)) ∧ Below w.heap.size w w' :=
  (beyond_any A n cap f most b0 w hn h0 h1 hb hs).mono fun e w' ⟨he, hw⟩ => ⟨he, by rw [← hw]; exact (Below.refl _ _).alloc (Nat.le_refl _) _⟩
/-- What a Pass is refused for. -/
def Bad (t : Int) (n m : Nat) (f : Nat → Int) (now : Int) : Prop := t < 1 ∨ 64 < t ∨ m < n ∨ anyFar 8 f n = true ∨ 1099511627776 - t < now
set_option maxHeartbeats 4000000 in
theorem pass_bad (c g : Nat) (l : List Int) (now : Int) (fl : Bool) (t : Int) (A : Option Addr) (n cap : Nat) (f : Nat → Int) (w : World) (hc : CAt w 42 c g l now fl) (hs : Skews w A n f) (hn : n ≤ 1000000)
    (hnow : 0 ≤ now ∧ now ≤ 1099511627776) (hbad : Bad t n l.length f now) :
    Calls Try.prog 10 #[.pointer (some ⟨c, 0, none⟩), .int .i64 t, .slice A n cap] w fun e w' => e = .returned (.int .i64 1) ∧ Below w.heap.size w w' := by
  have hb0 := (Below.refl w.heap.size w).alloc (Nat.le_refl _) (.cells #[.slice A n cap] 30)
  have hc0 := hc.below hb0
  have hs0 := hs.below hb0
  have c0 := hc0.c0
  have c1 := hc0.c1
  have cb : (w.alloc (.cells #[.slice A n cap] 30)).cell? ⟨w.heap.size, 0, none⟩ = some (.slice A n cap) := blk_cell (heap_alloc_new w _) rfl
  have q0 := fun d os => cell_regrown c0 d os
  have q1 := fun d os => cell_regrown c1 d os
  have qb := fun d os => cell_regrown cb d os
  have hcall : ∀ d os, Calls Try.prog 17 #[.int .i64 8, .pointer (some ⟨w.heap.size, 0, none⟩)] (grow (redrawn (w.alloc (.cells #[.slice A n cap] 30)) d) os) fun e w' => e = .returned (.bool (anyFar 8 f n)) ∧ Below (grow (redrawn (w.alloc (.cells #[.slice A n cap] 30)) d) os).heap.size (grow (redrawn (w.alloc (.cells #[.slice A n cap] 30)) d) os) w' := fun d os =>
    beyond_below A n cap f 8 w.heap.size _ hn (by omega) (by omega) (qb d os) (hs0.below (below_regrown _ d os))
  unfold Bad at hbad
  generalize anyFar 8 f n = far8 at hcall hbad
  generalize l.length = m at *
  have HC := Lib.hid hcall
  clear hcall hs hs0 hc hc0 c0 c1 cb
  obtain ⟨hn1, hn2⟩ := hnow
  have hdec : t < 1 ∨ (1 ≤ t ∧ 64 < t) ∨ ((1 ≤ t ∧ t ≤ 64) ∧ m < n) ∨ ((1 ≤ t ∧ t ≤ 64) ∧ n ≤ m ∧ far8 = true) ∨ ((1 ≤ t ∧ t ≤ 64) ∧ n ≤ m ∧ far8 = false ∧ 1099511627776 - t < now) := by
    by_cases k1 : t < 1
    · exact .inl k1
    by_cases k2 : 64 < t
    · exact .inr (.inl ⟨by omega, k2⟩)
    by_cases k3 : m < n
    · exact .inr (.inr (.inl ⟨by omega, k3⟩))
    cases far8
    · rcases hbad with k | k | k | k | k
      · exact absurd k k1
      · exact absurd k k2
      · exact absurd k k3
      · cases k
      · exact .inr (.inr (.inr (.inr ⟨by omega, by omega, rfl, k⟩)))
    · exact .inr (.inr (.inr (.inl ⟨by omega, by omega, rfl⟩)))
  clear hbad
  rcases hdec with h | ⟨h, h'⟩ | ⟨⟨h, h'⟩, h''⟩ | ⟨⟨h, h'⟩, h'', rfl⟩ | ⟨⟨h, h'⟩, h'', rfl, h5⟩
  · have d1 : decide (t < 1) = true := by simpa using h
    go_enter Try.func10, Try.ntmps10
    go_wp2
    refine wp_region_quiet_below (by kernel_rfl) (by kernel_rfl) ?_
    repeat (go_big_quiet_step (fail))
    refine wpQuiet_nil ?_
    intro w1 hw1
    have hb1 := near_iff.1 hw1
    clear hw1
    go_wp2
    go_ret
    exact ⟨rfl, below_new hb1⟩
  · have d1 : decide (t < 1) = false := by simp; omega
    have d2 : decide (64 < t) = true := by simp; omega
    go_enter Try.func10, Try.ntmps10
    go_wp2
    refine wp_region_quiet_below (by kernel_rfl) (by kernel_rfl) ?_
    repeat (go_big_quiet_step (fail))
    refine wpQuiet_nil ?_
    intro w1 hw1
    have hb1 := near_iff.1 hw1
    clear hw1
    go_wp2
    go_ret
    exact ⟨rfl, below_new hb1⟩
  · have d1 : decide (t < 1) = false := by simp; omega
    have d2 : decide (64 < t) = false := by simp; omega
    have d3 : decide (m < n) = true := by simp; omega
    go_enter Try.func10, Try.ntmps10
    go_wp2
    refine wp_region_quiet_below (by kernel_rfl) (by kernel_rfl) ?_
    repeat (go_big_quiet_step (fail))
    refine wpQuiet_nil ?_
    intro w1 hw1
    have hb1 := near_iff.1 hw1
    clear hw1
    go_wp2
    go_ret
    exact ⟨rfl, below_new hb1⟩
  · have d1 : decide (t < 1) = false := by simp; omega
    have d2 : decide (64 < t) = false := by simp; omega
    have d3 : decide (m < n) = false := by simp; omega
    go_enter Try.func10, Try.ntmps10
    go_wp2
    refine wp_region_quiet_below (by kernel_rfl) (by kernel_rfl) ?_
    repeat (go_big_quiet_step ((go_at_call 17; exact Calls.regrown_of (HC.out _ _))))
    refine wpQuiet_nil ?_
    intro w1 hw1
    have hb1 := near_iff.1 hw1
    clear hw1
    go_wp2
    go_ret
    exact ⟨rfl, below_new hb1⟩
  · have d1 : decide (t < 1) = false := by simp; omega
    have d2 : decide (64 < t) = false := by simp; omega
    have d3 : decide (m < n) = false := by simp; omega
    have d5 : decide (1099511627776 - t < now) = true := by simpa using h5
    go_enter Try.func10, Try.ntmps10
    go_wp2
    refine wp_region_quiet_below (by kernel_rfl) (by kernel_rfl) ?_
    repeat (go_big_quiet_step ((go_at_call 17; exact Calls.regrown_of (HC.out _ _))))
    refine wpQuiet_nil ?_
    intro w1 hw1
    have hb1 := near_iff.1 hw1
    clear hw1
    go_wp2
    go_ret
    exact ⟨rfl, below_new hb1⟩
end Go.Proofs.Yteodeemghhbfpaa

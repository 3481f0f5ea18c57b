/-
  WALKS: Pass of the program, with the closures that it hands to slices.ContainsFunc.
-/
import Derived.Test.YteodeemghhbfpaaClock
namespace Go.Proofs.Yteodeemghhbfpaa
open Go.RowKit
/-- A skew that is too great. -/
def far (most k : Int) : Bool := decide (k < -most) || decide (most < k)
def anyFar (most : Int) (f : Nat → Int) (n : Nat) : Bool := (List.range n).any fun j => far most (f j)
theorem anyFar_yes {most : Int} {f : Nat → Int} {n k : Nat} (hk : k < n) (h : far most (f k) = true) : anyFar most f n = true := by
  simp only [anyFar, List.any_eq_true, List.mem_range]
  exact ⟨k, hk, h⟩
theorem anyFar_no {most : Int} {f : Nat → Int} {n : Nat} (h : ∀ j, j < n → far most (f j) = false) : anyFar most f n = false := by
  simp only [anyFar, List.any_eq_false, List.mem_range]
  intro j hj
  rw [h j hj]
  decide
theorem far_of_any {most : Int} {f : Nat → Int} {n j : Nat} (h : anyFar most f n = false) (hj : j < n) : far most (f j) = false := by
  simp only [anyFar, List.any_eq_false, List.mem_range] at h
  have := h j hj
  simpa using this
/-- The skews of a slice. -/
def Skews (w : World) (A : Option Addr) (n : Nat) (f : Nat → Int) : Prop :=
  0 < n → ∃ b off, A = some ⟨b, off, none⟩ ∧ b < w.heap.size ∧ ∀ j, j < n → w.cell? ⟨b, off + j, none⟩ = some (.int .i64 (f j))
theorem Skews.below {w w' : World} {A : Option Addr} {n : Nat} {f : Nat → Int} (h : Skews w A n f) (hb : Below w.heap.size w w') : Skews w' A n f := fun h0 => by
  obtain ⟨b, off, e, hlt, hc⟩ := h h0
  exact ⟨b, off, e, Nat.lt_of_lt_of_le hlt hb.size, fun j hj => by rw [hb.cell (p := ⟨b, off + j, none⟩) hlt]; exact hc j hj⟩
theorem Skews.fr {S : Nat → Prop} {w w' : World} {A : Option Addr} {n : Nat} {f : Nat → Int} (h : Skews w A n f) (hb : Fr S w w') (hs : 0 < n → ∀ a, A = some a → ¬ S a.block) : Skews w' A n f := fun h0 => by
  obtain ⟨b, off, e, hlt, hc⟩ := h h0
  exact ⟨b, off, e, Nat.lt_of_lt_of_le hlt hb.size, fun j hj => hb.cell (hs h0 _ e) (hc j hj)⟩
theorem Skews.few {w : World} {A : Option Addr} {n m : Nat} {f : Nat → Int} (h : Skews w A n f) (hm : m ≤ n) : Skews w A m f := fun h0 => by
  obtain ⟨b, off, e, hlt, hc⟩ := h (by omega)
  exact ⟨b, off, e, hlt, fun j hj => hc j (by omega)⟩
theorem test_any (k most : Int) (p : Nat) (w : World) (h0 : 0 ≤ most) (h1 : most ≤ 100) (hc : w.cell? ⟨p, 0, none⟩ = some (.int .i64 most)) :
    Calls Try.prog 19 #[.int .i64 k, .pointer (some ⟨p, 0, none⟩)] w fun e w' => e = .returned (.bool (far most k)) ∧ w = w' := by
  have hn : IntKind.i64.wrap (-most) = -most := IntWalk.i64_in _ (by omega)
  unfold far
  by_cases hk : k < -most
  all_goals
    go_enter Try.func19, Try.ntmps19
    go_wp2
    go_ret
    refine ⟨ret_bool ?_, rfl⟩
    rw [Bool.eq_iff_iff]
    simp
    omega
def SomeIdx (b : Bool) (w : World) (e : Ending) (w' : World) : Prop := ∃ r : Int, decide (0 ≤ r) = b ∧ e = .returned (.int .i64 r) ∧ w = w'
set_option maxHeartbeats 1000000 in
theorem index_any (A : Option Addr) (n cap : Nat) (f : Nat → Int) (most : Int) (p : Nat) (w : World) (hn : n ≤ 1000000) (h0 : 0 ≤ most) (h1 : most ≤ 100) (hc : w.cell? ⟨p, 0, none⟩ = some (.int .i64 most)) (hs : Skews w A n f) :
    Calls Try.prog 20 #[.slice A n cap, .func (.func 19) #[] #[.pointer (some ⟨p, 0, none⟩)]] w (SomeIdx (anyFar most f n) w) := by
  have HS := Lib.hid hs
  clear hs
  go_enter Try.func20, Try.ntmps20
  go_wp2
  go_loop [8] (fun i => ∃ k : Nat, k ≤ n ∧ i = .int .i64 k ∧ ∀ j, j < k → far most (f j) = false) (fun i => n - (intOf i).toNat)
  case atStart => exact ⟨0, Nat.zero_le _, rfl, fun j hj => by omega⟩
  case round =>
    obtain ⟨k, hk, rfl, hall⟩ := hrel
    have HA := Lib.hid hall
    clear hall
    by_cases hlt : k < n
    · have hd : decide ((k : Int) < (n : Int)) = true := by simp; omega
      obtain ⟨b, off, rfl, _, hcell⟩ := HS.out (by omega)
      have hx := hcell k hlt
      clear hcell
      have hct := test_any (f k) most p w h0 h1 hc
      cases hf : far most (f k)
      · rw [hf] at hct
        have HF := Lib.hid hf
        have HC := Lib.hid hct
        clear hf hct
        go_wp2_with (go_at_call 19; refine (HC.out).mono ?_; rintro e w1 ⟨rfl, rfl⟩)
        exact ⟨⟨k + 1, by omega, by go_num, fun j hj => by
          by_cases e : j = k
          · subst e; exact HF.out
          · exact HA.out j (by omega)⟩, by simp [intOf]; omega⟩
      · rw [hf] at hct
        have HF := Lib.hid hf
        have HC := Lib.hid hct
        clear hf hct
        go_wp2_with (go_at_call 19; refine (HC.out).mono ?_; rintro e w1 ⟨rfl, rfl⟩)
        go_ret
        exact ⟨k, by rw [anyFar_yes hlt HF.out]; simp, rfl, rfl⟩
    · have hk16 : k = n := by omega
      subst hk16
      go_wp2
      go_ret
      exact ⟨-1, by rw [anyFar_no HA.out]; rfl, rfl, rfl⟩
theorem contains_any (A : Option Addr) (n cap : Nat) (f : Nat → Int) (most : Int) (p : Nat) (w : World) (hn : n ≤ 1000000) (h0 : 0 ≤ most) (h1 : most ≤ 100) (hc : w.cell? ⟨p, 0, none⟩ = some (.int .i64 most)) (hs : Skews w A n f) :
    Calls Try.prog 18 #[.slice A n cap, .func (.func 19) #[] #[.pointer (some ⟨p, 0, none⟩)]] w fun e w' => e = .returned (.bool (anyFar most f n)) ∧ w = w' := by
  have H := Lib.hid (index_any A n cap f most p w hn h0 h1 hc hs)
  generalize anyFar most f n = b at *
  clear hs
  go_enter Try.func18, Try.ntmps18
  go_wp2_with fail
  refine (H.out).mono ?_
  rintro e w1 ⟨r, hr, rfl, rfl⟩
  go_wp2_with fail
  go_ret
  exact ⟨by rw [← hr]; rfl, rfl⟩
theorem beyond_any (A : Option Addr) (n cap : Nat) (f : Nat → Int) (most : Int) (b0 : Nat) (w : World) (hn : n ≤ 1000000) (h0 : 0 ≤ most) (h1 : most ≤ 100) (hb : w.cell? ⟨b0, 0, none⟩ = some (.slice A n cap)) (hs : Skews w A n f) :
    Calls Try.prog 17 #[.int .i64 most, .pointer (some ⟨b0, 0, none⟩)] w fun e w' => e = .returned (.bool (anyFar most f n)) ∧ w.alloc (.cells #[.int .i64 most] 3) = w' := by
  have hlt := World.block_lt_of_cell? _ _ hb
  have hb' : (w.alloc (.cells #[.int .i64 most] 3)).cell? ⟨b0, 0, none⟩ = some (.slice A n cap) := by rw [World.cell?_alloc_past _ _ _ hlt]; exact hb
  have H := Lib.hid (contains_any A n cap f most w.heap.size _ hn h0 h1 (blk_cell (heap_alloc_new w (.cells #[.int .i64 most] 3)) rfl) (hs.below ((Below.refl _ _).alloc (Nat.le_refl _) _)))
  generalize anyFar most f n = b at *
  clear hs
  go_enter Try.func17, Try.ntmps17
  go_wp2_with fail
  refine (H.out).mono ?_
  rintro e w1 ⟨rfl, rfl⟩
  go_wp2_with fail
  go_ret
  exact ⟨rfl, rfl⟩
end Go.Proofs.Yteodeemghhbfpaa

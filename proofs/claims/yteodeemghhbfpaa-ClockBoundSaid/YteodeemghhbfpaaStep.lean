/-
  WHAT A PASS DOES, in plain Lean, and both Passes by it; the passes that come in.
-/
import Derived.Test.YteodeemghhbfpaaLives
namespace Go.Proofs.Yteodeemghhbfpaa
open Go.RowKit
/-- Clocks: their eighths, the true one, whether the bound is broken. -/
structure St where
  l : List Int
  now : Int
  wild : Bool
def bad (s : St) (t : Int) (n : Nat) (f : Nat → Int) : Bool := decide (t < 1) || decide (64 < t) || decide (s.l.length < n) || anyFar 8 f n || decide (1099511627776 - t < s.now)
theorem bad_iff (s : St) (t : Int) (n : Nat) (f : Nat → Int) : bad s t n f = true ↔ Bad t n s.l.length f s.now := by
  unfold bad Bad
  simp only [Bool.or_eq_true, decide_eq_true_eq, or_assoc]
def code (s : St) (t : Int) (n : Nat) (f : Nat → Int) : Int := if bad s t n f then 1 else 0
def step (s : St) (t : Int) (n : Nat) (f : Nat → Int) : St := if bad s t n f then s else ⟨mid t f n s.l s.l.length, s.now + t, s.wild || anyFar 1 f n⟩
structure Fine (s : St) : Prop where
  len : s.l.length ≤ 9
  now0 : 0 ≤ s.now
  now1 : s.now ≤ 1099511627776
  cells : ∀ i, 0 ≤ s.l.getD i 0 ∧ s.l.getD i 0 ≤ 16 * s.now
theorem Fine.small {s : St} (h : Fine s) : ∀ i, 0 ≤ s.l.getD i 0 ∧ s.l.getD i 0 ≤ 17592186044416 := fun i => by
  have := h.cells i
  have := h.now1
  omega
theorem step_len (s : St) (t : Int) (n : Nat) (f : Nat → Int) : (step s t n f).l.length = s.l.length := by
  unfold step
  split
  · rfl
  · exact mid_len _ _ _ _ _
theorem good_parts {s : St} {t : Int} {n : Nat} {f : Nat → Int} (hb : bad s t n f = false) : 1 ≤ t ∧ t ≤ 64 ∧ n ≤ s.l.length ∧ anyFar 8 f n = false ∧ s.now ≤ 1099511627776 - t := by
  have : ¬ Bad t n s.l.length f s.now := fun h => by rw [(bad_iff s t n f).2 h] at hb; cases hb
  unfold Bad at this
  simp only [not_or, Int.not_lt, Nat.not_lt, Bool.not_eq_true] at this
  exact this
theorem step_get {s : St} {t : Int} {n : Nat} {f : Nat → Int} (hb : bad s t n f = false) (i : Nat) (hi : i < s.l.length) : (step s t n f).l.getD i 0 = s.l.getD i 0 + t * rate f n i := by
  unfold step
  rw [if_neg (by rw [hb]; decide), mid_get _ _ _ _ _ _ hi, if_pos hi]
theorem Fine.step {s : St} (h : Fine s) (t : Int) (n : Nat) (f : Nat → Int) : Fine (step s t n f) := by
  cases hb : bad s t n f
  · obtain ⟨h1, h2, h3, h4, h5⟩ := good_parts hb
    have hn : (Go.Proofs.Yteodeemghhbfpaa.step s t n f).now = s.now + t := by unfold Go.Proofs.Yteodeemghhbfpaa.step; rw [if_neg (by rw [hb]; decide)]
    have := h.now0
    refine ⟨by rw [step_len]; exact h.len, by rw [hn]; omega, by rw [hn]; omega, fun i => ?_⟩
    rw [hn]
    by_cases hi : i < s.l.length
    · rw [step_get hb i hi]
      have hr := rate_bd h4 i
      have hc := h.cells i
      have k1 : 0 ≤ t * rate f n i := Int.mul_nonneg (by omega) hr.1
      have k2 : t * rate f n i ≤ t * 16 := Int.mul_le_mul_of_nonneg_left hr.2 (by omega)
      omega
    · rw [List.getD_eq_getElem?_getD, List.getElem?_eq_none (by rw [step_len]; omega)]
      simp only [Option.getD_none]
      omega
  · unfold Go.Proofs.Yteodeemghhbfpaa.step
    rw [if_pos hb]
    exact h
theorem Fine.start (n : Nat) (hn : n ≤ 9) : Fine ⟨List.replicate n 0, 0, false⟩ := by
  refine ⟨by simpa using hn, by simp, by simp, fun i => ?_⟩
  by_cases h : i < n <;> simp [h]
theorem pass_any (c g : Nat) (s : St) (t : Int) (A : Option Addr) (n cap : Nat) (f : Nat → Int) (w : World) (hc : CAt w 42 c g s.l s.now s.wild) (hg : Fine s) (hs : Skews w A n f) (hA : 0 < n → ∀ a, A = some a → ¬ Two c g a.block) (hn : n ≤ 1000000) :
    Calls Try.prog 10 #[.pointer (some ⟨c, 0, none⟩), .int .i64 t, .slice A n cap] w fun e w' => e = .returned (.int .i64 (code s t n f)) ∧ CAt w' 42 c g (step s t n f).l (step s t n f).now (step s t n f).wild ∧ Fr (Two c g) w w' := by
  unfold code step
  cases hb : bad s t n f
  · exact pass_ok c g s.l s.now s.wild t A n cap f w hc hs hA hn ⟨hg.now0, hg.now1⟩ hg.len hg.small (fun h => by rw [(bad_iff s t n f).2 h] at hb; cases hb)
  · exact (pass_bad c g s.l s.now s.wild t A n cap f w hc hs hn ⟨hg.now0, hg.now1⟩ ((bad_iff s t n f).1 hb)).mono fun e w' ⟨he, hw⟩ => ⟨he, hc.below hw, Fr.of_below hw⟩
theorem rpass_any (c g : Nat) (s : St) (t : Int) (A : Option Addr) (n cap : Nat) (f : Nat → Int) (w : World) (hc : CAt w 36 c g s.l s.now (!s.wild)) (hg : Fine s) (hs : Skews w A n f) (hA : 0 < n → ∀ a, A = some a → ¬ Two c g a.block) (hn : n ≤ 1000000)
    (ht : -9223372036854775808 ≤ t ∧ t ≤ 9223372036854775807) :
    Calls Try.prog 12 #[.pointer (some ⟨c, 0, none⟩), .int .i64 t, .slice A n cap] w fun e w' => e = .returned (.int .i64 (code s t n f)) ∧ CAt w' 36 c g (step s t n f).l (step s t n f).now (!(step s t n f).wild) ∧ Fr (Two c g) w w' := by
  unfold code step
  cases hb : bad s t n f
  · obtain ⟨h1, h2, h3, h4, h5⟩ := good_parts hb
    obtain ⟨k, rfl⟩ := Int.eq_ofNat_of_zero_le (show 0 ≤ t by omega)
    refine (rpass_ok c g s.l s.now (!s.wild) k A n cap f w hc hs hA hn ⟨hg.now0, hg.now1⟩ hg.len hg.small (fun h => by rw [(bad_iff s k n f).2 h] at hb; cases hb)).mono fun e w' ⟨he, hw, hf⟩ => ⟨he, ?_, hf⟩
    rw [← Bool.not_or] at hw
    exact hw
  · exact (rpass_bad c g s.l s.now (!s.wild) t A n cap f w hc hs hn ⟨hg.now0, hg.now1⟩ ht ((bad_iff s t n f).1 hb)).mono fun e w' ⟨he, hw⟩ => ⟨he, by rw [← hw]; exact hc, by rw [← hw]; exact Fr.refl _ _⟩
/-- One pass that came in. -/
structure One where
  t : Int
  A : Option Addr
  n : Nat
  cap : Nat
  f : Nat → Int
/-- The passes of a slice. -/
structure Passes (w : World) (A : Option Addr) (len : Nat) (p : Nat → One) : Prop where
  at_ : 0 < len → ∃ b off, A = some ⟨b, off, none⟩ ∧ b < w.heap.size ∧ ∀ i, i < len → w.cell? ⟨b, off + i * 2, none⟩ = some (.int .i64 (p i).t) ∧ w.cell? ⟨b, off + i * 2 + 1, none⟩ = some (.slice (p i).A (p i).n (p i).cap)
  le : ∀ i, i < len → (p i).n ≤ (p i).cap
  max : ∀ i, i < len → (p i).cap ≤ maxLen
  old : ∀ i, i < len → 0 < (p i).n → ∀ a, (p i).A = some a → a.block < w.heap.size
  wf : ∀ i, i < len → -9223372036854775808 ≤ (p i).t ∧ (p i).t ≤ 9223372036854775807
  skews : ∀ i, i < len → Skews w (p i).A (p i).n (p i).f
end Go.Proofs.Yteodeemghhbfpaa

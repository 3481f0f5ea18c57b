/-
  WALKS: First, All, Count, Without of a map.
-/
import Derived.Test.YtabccjmkgokglaaTruths
namespace Go.Proofs.Ytabccjmkgokglaa
open Go.RowKit
/-- r is the first block from 'lo' on that is not used, or 0. -/
def IsFirst (m : List Nat) (lo r : Int) : Prop :=
  (lo ≤ r ∧ 1 ≤ r ∧ r ≤ 128 ∧ bit m (r - 1).toNat = false ∧ ∀ j, lo ≤ j → 1 ≤ j → j < r → bit m (j - 1).toNat = true) ∨
  (r = 0 ∧ ∀ j, lo ≤ j → 1 ≤ j → j ≤ 128 → bit m (j - 1).toNat = true)
theorem IsFirst.same {m : List Nat} {lo r s : Int} (h : IsFirst m lo r) (k : IsFirst m lo s) : r = s := by
  rcases h with ⟨h1, h2, h3, h4, h5⟩ | ⟨rfl, h5⟩ <;> rcases k with ⟨k1, k2, k3, k4, k5⟩ | ⟨rfl, k5⟩
  · rcases Int.lt_trichotomy r s with c | c | c
    · rw [k5 r h1 h2 c] at h4; cases h4
    · exact c
    · rw [h5 s k1 k2 c] at k4; cases k4
  · rw [k5 r h1 h2 h3] at h4; cases h4
  · rw [h5 s k1 k2 k3] at k4; cases k4
  · rfl
def SomeInt (p : Int → Prop) (w : World) (e : Ending) (w' : World) : Prop := ∃ n : Int, p n ∧ e = .returned (.int .i64 n) ∧ Below w.heap.size w w'
set_option maxHeartbeats 1000000 in
theorem first_any (m : List Nat) (hm : Ok m) (lo : Int) (w : World) (hlo : lo ≤ 9223372036854775807) :
    Calls Try.prog 14 #[mval m, .int .i64 lo] w (SomeInt (IsFirst m lo) w) := by
  have hl := hm.1
  go_enter Try.func14, Try.ntmps14
  go_wp2
  all_goals
    go_loopw [5] (fun i wr => ∃ v : Int, lo ≤ v ∧ 1 ≤ v ∧ i = .int .i64 v ∧ (∀ j, lo ≤ j → 1 ≤ j → j < v → bit m (j - 1).toNat = true) ∧ Below (w.heap.size + 1) (w.alloc (.cells (mcells m) 23)) wr) (fun i _ => (129 - intOf i).toNat)
    case atStart => exact ⟨_, by omega, by omega, rfl, fun j h1 h2 h3 => by omega, Below.refl _ _⟩
    case round =>
      obtain ⟨v, hv1, hv2, rfl, hall, hbel⟩ := hrel
      have HA := Lib.hid hall
      clear hall
      have b1 := blk_below hbel (by omega) (heap_alloc_new w (.cells (mcells m) 23))
      by_cases hle : v ≤ 128
      · generalize hB : bit m (v - 1).toNat = b at *
        have HB := Lib.hid hB
        clear hB
        have hc := used_yes m hm v wr hv2 hle
        rw [HB.out] at hc
        have HC := Lib.hid hc
        clear hc
        cases b
        · go_wp2_with (first
            | (go_at_call 12; refine (HC.out).mono ?_; rintro e w' ⟨rfl, hb⟩)
            | (refine wpl_load23 rfl _ rfl rfl b1 hl ?_))
          go_ret
          exact ⟨v, .inl ⟨hv1, hv2, hle, HB.out, HA.out⟩, rfl, below_then (below_box hbel) hb⟩
        · go_wp2_with (first
            | (go_at_call 12; refine (HC.out).mono ?_; rintro e w' ⟨rfl, hb⟩)
            | (refine wpl_load23 rfl _ rfl rfl b1 hl ?_))
          exact ⟨⟨v + 1, by omega, by omega, rfl, fun j h1 h2 h3 => by
            by_cases e : j = v
            · subst e; exact HB.out
            · exact HA.out j h1 h2 (by omega), below_then' hbel (size_box hbel) hb⟩, by simp [intOf]; omega⟩
      · go_wp2
        go_ret
        exact ⟨0, .inr ⟨rfl, fun j h1 h2 h3 => HA.out j h1 h2 (by omega)⟩, rfl, below_box hbel⟩
/-- An element of a map by its index. -/
theorem run_index23 (m : List Nat) (k : Nat) (h : k < m.length) (hm : m.length = 16) (w : World) :
    (Instr.index 23 (.agg (mcells m)) (.int .i64 (k : Int))).run Try.prog w = .ok (.int .u8 (m.getD k 0 : Nat)) w := by
  have ha : (isAgg 5).run Try.prog w = .ok false w := by kernel_rfl
  have hc := mcells_get m k h
  have hk : (0:Int) ≤ k ∧ (k:Int) < 16 := by omega
  have hp : (part 5 (mcells m) k).run Try.prog w = .ok (.int .u8 (m.getD k 0 : Nat)) w := by
    simp [part, Sem.run_bind, ha, hc]
  unfold Instr.index
  rw [Sem.run_bind]
  simp [asIntOf, Sem.run_bind, hk]
  exact hp
/-- How many bits are set. -/
def pop (x : Nat) : Nat := ((List.range 8).filter fun k => decide (x / 2 ^ k % 2 = 1)).length
def popTo (m : List Nat) (n : Nat) : Nat := ((List.range n).map fun i => pop (m.getD i 0)).sum
theorem popTo_succ (m : List Nat) (n : Nat) : popTo m (n + 1) = popTo m n + pop (m.getD n 0) := by simp [popTo, List.range_succ]
theorem pop_le (x : Nat) : pop x ≤ 8 := by
  unfold pop
  exact Nat.le_trans (List.length_filter_le _ _) (by simp)
theorem popTo_le (m : List Nat) (n : Nat) : popTo m n ≤ 8 * n := by
  induction n with
  | zero => simp [popTo]
  | succ n ih => rw [popTo_succ]; have := pop_le (m.getD n 0); omega
theorem pop_zero : pop 0 = 0 := by decide
theorem pop_step : ∀ c : Nat, c < 256 → 0 < c → (c &&& (c - 1)) < c ∧ pop c = pop (c &&& (c - 1)) + 1 := by decide +kernel
set_option maxHeartbeats 1000000 in
theorem count_any (m : List Nat) (hm : Ok m) (w : World) :
    Calls Try.prog 21 #[mval m] w fun e w' => e = .returned (.int .i64 (popTo m 16)) ∧ Below w.heap.size w w' := by
  have hl := hm.1
  go_enter Try.func21, Try.ntmps21
  go_wp2_with (first
    | (refine wpl_load23 rfl _ rfl rfl (heap_alloc_new _ _) hl ?_))
  go_loop [3, 7] (fun v i => ∃ k : Nat, k ≤ 16 ∧ i = .int .i64 k ∧ v = .int .i64 (popTo m k)) (fun _ i => 16 - (intOf i).toNat)
  case atStart => exact ⟨0, Nat.zero_le _, rfl, rfl⟩
  case round =>
    obtain ⟨k, hk, rfl, rfl⟩ := hrel
    by_cases hlt : k < 16
    · have hd : decide ((k : Int) < 16) = true := by simp; omega
      have hx256 := hm.lt k
      have hix := run_index23 m k (by omega) hl
      have hps := popTo_succ m k
      have hle := popTo_le m k
      have hle2 := pop_le (m.getD k 0)
      generalize m.getD k 0 = x at *
      have HP := Lib.hid hps
      clear hps
      go_wp2
      go_loop [3, 5] (fun v y => ∃ c d : Nat, c < 256 ∧ d + pop c = pop x ∧ y = .int .u8 c ∧ v = .int .i64 (popTo m k + d : Nat)) (fun _ y => (intOf y).toNat)
      case atStart => exact ⟨x, 0, hx256, by omega, rfl, rfl⟩
      case round =>
        obtain ⟨c, d, hc, hd', rfl, rfl⟩ := hrel
        by_cases h0 : c = 0
        · subst h0
          have hn : (((0 : Nat) : Int) != 0) = false := by decide
          rw [pop_zero] at hd'
          go_wp2
          exact ⟨⟨k + 1, by omega, by go_num, by rw [HP.out, ← hd']; rfl⟩, by simp [intOf]; omega⟩
        · have hn : ((c : Int) != 0) = true := by rw [bne_iff_ne]; omega
          obtain ⟨h1, h2⟩ := pop_step c hc (by omega)
          have he : bits BinOp.and .u8 (c : Int) ((c : Int) - 1) = ((c &&& (c - 1) : Nat) : Int) := by
            rw [show (c : Int) - 1 = ((c - 1 : Nat) : Int) from by omega]
            exact u8_and_nat c (c - 1) hc (by omega)
          have hdb : d ≤ 8 := by omega
          have H2 := Lib.hid h2
          have HD := Lib.hid hd'
          clear h2 hd'
          generalize hq : c &&& (c - 1) = q at *
          have HQ := Lib.hid hq
          clear hq
          go_wp2
          go_round
          case rel => exact ⟨q, d + 1, by omega, by have := H2.out; have := HD.out; omega, rfl, by go_num⟩
          case measure => simp [intOf]; omega
    · have hk16 : k = 16 := by omega
      subst hk16
      go_wp2
      go_ret
      exact ⟨rfl, (Below.refl _ _).alloc (Nat.le_refl _) _⟩
end Go.Proofs.Ytabccjmkgokglaa

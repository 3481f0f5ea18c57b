/-
  THE ITERATOR over the places of a name: of, and the function that it hands back.
-/
import Derived.Test.YthhcgdmpbihdnaaRHash
import Derived.RangeFuncNested
import Derived.RangeFuncBound
import Derived.RangeFuncCalls
import Derived.RangeFuncLeaves
import Derived.Shelf.Abstract
import Derived.OwnWalkIn
import Derived.TacticsInMore
import Derived.LoopNIn
import Derived.LoopIn
import Derived.Sort.QuietIn
namespace Go.Proofs.Ythhcgdmpbihdnaa
open Go.RowKit Go.Shelf
attribute [local go_sem] Oper.semAt_some
def plc (h i : Nat) : Nat := (h + i) % 16
theorem plc_lt (h i : Nat) : plc h i < 16 := Nat.mod_lt _ (by decide)
def plf (h i : Nat) : Fin 16 := ⟨plc h i, plc_lt h i⟩
def upto (h k : Nat) : List (Fin 16) := (List.range k).map (plf h)
theorem upto_succ (h k : Nat) : upto h (k + 1) = upto h k ++ [plf h k] := by simp [upto, List.range_succ]
theorem upto_len (h k : Nat) : (upto h k).length = k := by simp [upto]
set_option maxRecDepth 100000 in
set_option maxHeartbeats 1000000 in
theorem of1_in (n : Nat) (hn : 2 ≤ n) (l Bn n₀ : Nat) (s : ByteArray) (hs : s.size ≤ 9223372036854775807) (J Jx : List (Fin 16) → World → Prop)
    (hY : ∀ pre x W, J pre W → pre.length < 16 → YieldAt Fence.wide (n - 1) Try.prog l #[.int .i64 (x.val : Nat)] W fun e W' =>
      (e = .returned (.bool true) ∧ J (pre ++ [x]) W' ∧ Below n₀ W W') ∨ (e = .returned (.bool false) ∧ Jx (pre ++ [x]) W'))
    (W : World) (hBn : W.cell? ⟨Bn, 0, none⟩ = some (.string s)) (h0 : J [] W) :
    CallsIn Fence.wide n Try.prog 41 #[.func (.yield l) #[] #[], .pointer (some ⟨Bn, 0, none⟩)] W fun e W' => (∃ v, e = .returned v) ∧
      ((∃ ys, ys = upto (hash s) 16 ∧ J ys W') ∨ (∃ pre, (∃ k, k ≤ 16 ∧ pre = upto (hash s) k) ∧ Jx pre W')) := by
  have hl := hash_lt s
  have hH := fun W => (callsIn_wide (n := n - 1)).2 (hash_any s hs W)
  have HH := Lib.hid hH
  clear hH
  have h42 : Fence.wide.fn 42 := trivial
  have h1n : 1 ≤ n := by omega
  generalize hash s = h at *
  refine callsIn_of_wp Try.func41 rfl trivial ?_ rfl
  simp only [Try.ntmps41, List.size_toArray, List.length_cons, List.length_nil, Nat.reduceAdd, Nat.reduceSub, Array.replicate_succ, Array.replicate_zero, List.push_toArray, List.append_toArray, List.nil_append, List.cons_append]
  gi_wp2_with (gi_at_call 42; refine (HH.out _).mono ?_; rintro e w' ⟨rfl, rfl⟩)
  gi_loopw [7] (fun i wr => ∃ k : Nat, k ≤ 16 ∧ i = .int .i64 k ∧ J (upto h k) wr)
    (fun i _ => 16 - (intOf i).toNat)
  case atStart => exact ⟨0, Nat.zero_le _, rfl, h0⟩
  case round =>
    obtain ⟨k, hk, rfl, hJs⟩ := hrel
    by_cases hlt : k < 16
    · obtain ⟨fn, tmps, assign, body, hy, hR⟩ := hY _ (plf h k) wr hJs (by rw [upto_len]; exact hlt)
      have hpl : (((plf h k).val : Nat) : Int) = ((h : Int) + (k : Int)) % 16 := by show ((plc h k : Nat) : Int) = _; unfold plc; omega
      rw [hpl] at hy
      gi_wp2
      refine hR.mono ?_
      rintro e W3 (⟨rfl, hJ3, hk3⟩ | ⟨rfl, hJx3⟩)
      · gi_wp2
        go_roundw
        case rel => exact ⟨k + 1, by omega, by simp, by rw [upto_succ]; exact hJ3⟩
        case measure => simp [intOf]; omega
      · gi_wp2
        refine bodyPost_ret (results_none rfl _ _ _) rfl ?_
        exact ⟨⟨_, rfl⟩, .inr ⟨_, ⟨k + 1, by omega, (upto_succ _ _).symm⟩, hJx3⟩⟩
    · obtain rfl : k = 16 := by omega
      gi_wp2
      go_end0
      exact ⟨⟨_, rfl⟩, .inl ⟨_, rfl, hJs⟩⟩
theorem of_in (n : Nat) (s : ByteArray) (w : World) :
    CallsIn Fence.wide n Try.prog 32 #[.string s] w fun e w' => e = .returned (.func (.func 41) #[] #[.pointer (some ⟨w.heap.size, 0, none⟩)]) ∧ w' = w.alloc (.cells #[.string s] 9) := by
  refine callsIn_of_wp Try.func32 rfl trivial ?_ rfl
  simp only [Try.ntmps32, List.size_toArray, List.length_cons, List.length_nil, Nat.reduceAdd, Nat.reduceSub, Array.replicate_succ, Array.replicate_zero, List.push_toArray, List.append_toArray, List.nil_append, List.cons_append]
  gi_wp2
  go_ret
  exact ⟨rfl, rfl⟩
theorem of_stops (n : Nat) (hn : 2 ≤ n) (Bn n₀ : Nat) (s : ByteArray) (hs : s.size ≤ 9223372036854775807) (w : World) (hBn : Bn < w.heap.size) (hc : w.cell? ⟨Bn, 0, none⟩ = some (.string s)) :
    SeqStopsK Fence.wide n Try.prog 41 #[.pointer (some ⟨Bn, 0, none⟩)] (fun x : Fin 16 => #[Value.int .i64 (x.val : Nat)]) (Below n₀) (fun ys => ys = upto (hash s) 16) (fun pre => ∃ k, k ≤ 16 ∧ pre = upto (hash s) k) 16 w := fun l J Jx W hW _ _ hY h0 =>
  of1_in n hn l Bn n₀ s hs J Jx hY W ((hW.cell (p := ⟨Bn, 0, none⟩) hBn).trans hc) h0
end Go.Proofs.Ythhcgdmpbihdnaa

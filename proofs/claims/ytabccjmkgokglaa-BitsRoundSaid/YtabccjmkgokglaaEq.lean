/-
  WHEN TWO ARRAYS ARE EQUAL; and two maps. What taking, giving and leaving out does to the bits of a map.
-/
import Derived.Test.YtabccjmkgokglaaRow
namespace Go.Proofs.Ytabccjmkgokglaa
open Go.RowKit
theorem run_eq_list {P : Program} (w : World) (d : Nat) (e : TypeId) (k : Nat) (xs ys : Array Value) (X Y : Nat → Value) (b : Nat → Bool) :
    ∀ l : List Nat, (∀ i ∈ l, (part e xs (i * k)).run P w = .ok (X i) w) → (∀ i ∈ l, (part e ys (i * k)).run P w = .ok (Y i) w) → (∀ i ∈ l, (Op.equalIn d e (X i) (Y i)).run P w = .ok (b i) w) →
    Sem.run P (forIn l ((none : Option Bool), ()) fun i _ => do
            let x ← part e xs (i * k)
            let y ← part e ys (i * k)
            let r ← Op.equalIn d e x y
            if (!r) = true then pure (ForInStep.done (some false, ())) else pure (ForInStep.yield (none, ()))) w =
      .ok (if l.all b then (none, ()) else (some false, ())) w := by
  intro l
  induction l with
  | nil => intro _ _ _; simp
  | cons i l ih =>
    intro hx hy hb
    simp only [List.forIn_cons, Sem.run_bind, hx i (by simp), hy i (by simp), hb i (by simp), Result.andThen_ok, Sem.run_ite]
    cases hbi : b i
    · simp [hbi]
    · simp only [Bool.not_true, Bool.false_eq_true, if_false, Sem.run_pure, Result.andThen_ok]
      rw [ih (fun j hj => hx j (by simp [hj])) (fun j hj => hy j (by simp [hj])) (fun j hj => hb j (by simp [hj]))]
      simp [hbi]
theorem run_equalIn_array {P : Program} (w : World) (d : Nat) (t e : TypeId) (n k : Nat) (xs ys : Array Value) (X Y : Nat → Value) (b : Nat → Bool) (ht : P.underlying t = some (.array n e)) (hs : (sizeOf e).run P w = .ok k w)
    (hx : ∀ i, i < n → (part e xs (i * k)).run P w = .ok (X i) w) (hy : ∀ i, i < n → (part e ys (i * k)).run P w = .ok (Y i) w) (hb : ∀ i, i < n → (Op.equalIn d e (X i) (Y i)).run P w = .ok (b i) w) :
    (Op.equalIn (d + 1) t (.agg xs) (.agg ys)).run P w = .ok ((List.range n).all b) w := by
  simp only [Op.equalIn, Sem.run_bind, run_underlying ht, Result.andThen_ok, hs]
  rw [Std.Legacy.Range.forIn_eq_forIn_range']
  have hr : List.range' [:n].start [:n].size [:n].step = List.range n := by
    simp [Std.Legacy.Range.size, List.range_eq_range']
  rw [hr, run_eq_list w d e k xs ys X Y b (List.range n) (fun i hi => hx i (by simpa using hi)) (fun i hi => hy i (by simpa using hi)) (fun i hi => hb i (by simpa using hi))]
  cases (List.range n).all b <;> simp
theorem eql_maps (a b : List Nat) (ha : a.length = 16) (hb : b.length = 16) (w : World) :
    (binOp .eql 23 (.agg (mcells a)) (.agg (mcells b))).run Try.prog w = .ok (.bool ((List.range 16).all fun i => a.getD i 0 == b.getD i 0)) w := by
  rw [run_eql_struct]
  have hp : ∀ m : List Nat, m.length = 16 → ∀ i, i < 16 → (part 5 (mcells m) (i * 1)).run Try.prog w = .ok (.int .u8 (m.getD i 0 : Nat)) w := fun m hm i hi => by
    have hia : (isAgg 5).run Try.prog w = .ok false w := by kernel_rfl
    have hc := mcells_get m i (by omega)
    rw [Nat.mul_one]
    simp [part, Sem.run_bind, hia, hc]
  rw [run_equalIn_array w 9999 23 5 16 1 (mcells a) (mcells b) _ _ (fun i => a.getD i 0 == b.getD i 0) Try.underlying23 (by kernel_rfl) (hp a ha) (hp b hb) (fun i _ => by
    rw [run_equalIn_int w 9998 5 .u8 .u8 _ _ Try.underlying5]
    congr 1
    rw [Bool.eq_iff_iff, beq_iff_eq, beq_iff_eq]
    omega)]
  rfl
theorem eql_map (a : List Nat) (ha : a.length = 16) (w : World) : (binOp .eql 23 (.agg (mcells a)) (.agg (mcells a))).run Try.prog w = .ok (.bool true) w := by
  rw [eql_maps a a ha ha]
  simp
/-! ### Bits -/
theorem testBit_dm (x i : Nat) : decide (x / 2 ^ i % 2 = 1) = x.testBit i := (Nat.testBit_eq_decide_div_mod_eq).symm
theorem bit_tb (m : List Nat) (i : Nat) : bit m i = (m.getD (i / 8) 0).testBit (i % 8) := testBit_dm _ _
theorem getD_set (m : List Nat) (j k x : Nat) (hj : j < m.length) : (m.set j x).getD k 0 = if k = j then x else m.getD k 0 := by
  simp only [List.getD_eq_getElem?_getD, List.getElem?_set]
  by_cases e : j = k
  · subst e; simp [hj]
  · simp [e, Ne.symm e]
theorem ok_set {m : List Nat} (hm : Ok m) (j x : Nat) (hx : x < 256) : Ok (m.set j x) :=
  ⟨by simp [hm.1], fun y hy => by
    rcases List.mem_or_eq_of_mem_set hy with h | h
    · exact hm.2 y h
    · rw [h]; exact hx⟩
theorem ok_take {m : List Nat} (hm : Ok m) (n : Int) : Ok (takeL m n) := by
  unfold takeL
  split
  · refine ok_set hm _ _ ?_
    refine Nat.or_lt_two_pow (n := 8) (hm.lt _) ?_
    exact Nat.pow_lt_pow_of_lt (by decide) (by omega)
  · exact hm
theorem ok_give {m : List Nat} (hm : Ok m) (n : Int) : Ok (giveL m n) := by
  unfold giveL
  split
  · refine ok_set hm _ _ ?_
    exact Nat.lt_of_le_of_lt Nat.and_le_left (hm.lt _)
  · exact hm
theorem ok_wout {m o : List Nat} (hm : Ok m) : Ok (wout m o 16) := by
  refine ⟨by rw [wout_len, hm.1], fun x hx => ?_⟩
  simp only [wout, List.mem_map] at hx
  obtain ⟨i, _, rfl⟩ := hx
  split
  · exact Nat.lt_of_le_of_lt Nat.and_le_left (hm.lt _)
  · exact hm.lt _
theorem take_bit {m : List Nat} (hm : Ok m) (n : Int) (i : Nat) (hi : i < 128) : bit (takeL m n) i = (bit m i || decide (n = (i : Int) + 1)) := by
  unfold takeL
  split
  · rename_i h
    rw [bit_tb, bit_tb, getD_set _ _ _ _ (by rw [hm.1]; omega)]
    by_cases e : i / 8 = (n - 1).toNat / 8
    · rw [if_pos e, Nat.testBit_or, Nat.testBit_two_pow, e]
      congr 1
      rw [Bool.eq_iff_iff]
      simp only [decide_eq_true_eq]
      omega
    · rw [if_neg e]
      have : decide (n = (i : Int) + 1) = false := by simp; omega
      rw [this, Bool.or_false]
  · have : decide (n = (i : Int) + 1) = false := by simp; omega
    rw [this, Bool.or_false]
theorem low_not : ∀ k, k < 8 → ∀ j, j < 8 → (255 - 2 ^ k).testBit j = !decide (k = j) := by decide
theorem give_bit {m : List Nat} (hm : Ok m) (n : Int) (i : Nat) (hi : i < 128) : bit (giveL m n) i = (bit m i && !decide (n = (i : Int) + 1)) := by
  unfold giveL
  split
  · rename_i h
    rw [bit_tb, bit_tb, getD_set _ _ _ _ (by rw [hm.1]; omega)]
    by_cases e : i / 8 = (n - 1).toNat / 8
    · rw [if_pos e, Nat.testBit_and, low_not _ (by omega) _ (by omega), e]
      congr 2
      rw [Bool.eq_iff_iff]
      simp only [decide_eq_true_eq]
      omega
    · rw [if_neg e]
      have : decide (n = (i : Int) + 1) = false := by simp; omega
      rw [this, Bool.not_false, Bool.and_true]
  · have : decide (n = (i : Int) + 1) = false := by simp; omega
    rw [this, Bool.not_false, Bool.and_true]
theorem wout_bit {m o : List Nat} (hm : Ok m) (ho : Ok o) (i : Nat) (hi : i < 128) : bit (wout m o 16) i = (bit m i && !bit o i) := by
  rw [bit_tb, bit_tb, bit_tb]
  have e : (wout m o 16).getD (i / 8) 0 = m.getD (i / 8) 0 &&& (255 - o.getD (i / 8) 0) := by
    have hl := hm.1
    simp [wout, hl, show i / 8 < 16 by omega]
  rw [e, Nat.testBit_and]
  have h2 : (255 - o.getD (i / 8) 0) = 2 ^ 8 - (o.getD (i / 8) 0 + 1) := by omega
  rw [h2, Nat.testBit_two_pow_sub_succ (by have := ho.lt (i / 8); omega)]
  simp [show i % 8 < 8 by omega]
theorem ok_ext {a b : List Nat} (ha : Ok a) (hb : Ok b) (h : ∀ i, i < 128 → bit a i = bit b i) : a = b := by
  apply List.ext_getElem
  · rw [ha.1, hb.1]
  · intro i h1 h2
    have hi : i < 16 := by rw [ha.1] at h1; exact h1
    have e1 : a.getD i 0 = a[i] := by simp [h1]
    have e2 : b.getD i 0 = b[i] := by simp [h2]
    rw [← e1, ← e2]
    apply Nat.eq_of_testBit_eq
    intro j
    by_cases hj : j < 8
    · have := h (8 * i + j) (by omega)
      rw [bit_tb, bit_tb, show (8 * i + j) / 8 = i from by omega, show (8 * i + j) % 8 = j from by omega] at this
      exact this
    · have hp : 2 ^ 8 ≤ 2 ^ j := Nat.pow_le_pow_right (by decide) (by omega)
      rw [Nat.testBit_lt_two_pow (Nat.lt_of_lt_of_le (ha.lt i) hp), Nat.testBit_lt_two_pow (Nat.lt_of_lt_of_le (hb.lt i) hp)]
theorem take_comm {m : List Nat} (hm : Ok m) (n k : Int) : takeL (takeL m n) k = takeL (takeL m k) n :=
  ok_ext (ok_take (ok_take hm n) k) (ok_take (ok_take hm k) n) fun i hi => by
    rw [take_bit (ok_take hm n) k i hi, take_bit hm n i hi, take_bit (ok_take hm k) n i hi, take_bit hm k i hi, Bool.or_assoc, Bool.or_assoc, Bool.or_comm (decide (n = (i : Int) + 1))]
theorem take_twice {m : List Nat} (hm : Ok m) (n : Int) : takeL (takeL m n) n = takeL m n :=
  ok_ext (ok_take (ok_take hm n) n) (ok_take hm n) fun i hi => by
    rw [take_bit (ok_take hm n) n i hi, take_bit hm n i hi, Bool.or_assoc, Bool.or_self]
theorem give_twice {m : List Nat} (hm : Ok m) (n : Int) : giveL (giveL m n) n = giveL m n :=
  ok_ext (ok_give (ok_give hm n) n) (ok_give hm n) fun i hi => by
    rw [give_bit (ok_give hm n) n i hi, give_bit hm n i hi, Bool.and_assoc, Bool.and_self]
theorem bit_zeros (i : Nat) : bit zeros i = false := by
  have e : zeros.getD (i / 8) 0 = 0 := by
    unfold zeros
    rw [List.getD_eq_getElem?_getD, List.getElem?_replicate]
    split <;> rfl
  rw [bit_tb, e, Nat.zero_testBit]
theorem wout_none {m : List Nat} (hm : Ok m) : wout m zeros 16 = m :=
  ok_ext (ok_wout hm) hm fun i hi => by rw [wout_bit hm ok_zeros i hi, bit_zeros]; simp
theorem wout_self {m : List Nat} (hm : Ok m) : wout m m 16 = zeros :=
  ok_ext (ok_wout hm) ok_zeros fun i hi => by rw [wout_bit hm hm i hi, bit_zeros]; simp
theorem takeAny (m : List Nat) (hm : Ok m) (n : Int) (w : World) :
    Calls Try.prog 18 #[mval m, .int .i64 n] w fun e w' => e = .returned (mval (takeL m n)) ∧ Below w.heap.size w w' := by
  by_cases h : 1 ≤ n ∧ n ≤ 128
  · exact take_yes m hm n w h.1 h.2
  · rw [show takeL m n = m from by unfold takeL; rw [if_neg h]]
    exact take_no m hm.1 n w (by omega)
theorem giveAny (m : List Nat) (hm : Ok m) (n : Int) (w : World) :
    Calls Try.prog 19 #[mval m, .int .i64 n] w fun e w' => e = .returned (mval (giveL m n)) ∧ Below w.heap.size w w' := by
  by_cases h : 1 ≤ n ∧ n ≤ 128
  · exact give_yes m hm n w h.1 h.2
  · rw [show giveL m n = m from by unfold giveL; rw [if_neg h]]
    exact give_no m hm.1 n w (by omega)
end Go.Proofs.Ytabccjmkgokglaa

/-
  NetMany: for any number and any node the law returns true: a bag has at most so many packets. No condition.
-/
import Derived.Test.YtmicejjlfojncaaLives
namespace Go.Proofs.Ytmicejjlfojncaa
open Go.ChangeShapes Go.WideShapes Go.ChangeAt Go.RowKit Go.Deep
/-- How many got in. -/
def got (to : Int) (i : Nat) : Nat := if 0 ≤ to ∧ to ≤ 8 then min i 200 else 0
theorem ok_got (to : Int) (i : Nat) : okSend to (got to i) = (decide (i < 200) && decide (0 ≤ to) && decide (to ≤ 8)) := by
  unfold okSend got
  by_cases h : 0 ≤ to ∧ to ≤ 8
  · rw [if_pos h]
    by_cases h2 : i < 200
    · simp [h.1, h.2, h2]; omega
    · simp [h.1, h.2, h2]; omega
  · rw [if_neg h]
    have : decide (0 ≤ to) = false ∨ decide (to ≤ 8) = false := by
      by_cases h1 : 0 ≤ to
      · right; simp; omega
      · left; simp; omega
    rcases this with h3 | h3 <;> simp [h3]
theorem got_succ (to : Int) (i : Nat) : got to (i + 1) = if okSend to (got to i) then got to i + 1 else got to i := by
  rw [ok_got]
  unfold got
  by_cases h : 0 ≤ to ∧ to ≤ 8
  · rw [if_pos h, if_pos h]
    by_cases h2 : i < 200
    · simp [h.1, h.2, h2]; omega
    · simp [h2]; omega
  · rw [if_neg h, if_neg h]
    simp
    omega
theorem idx_all (l : List (Int × List Nat)) (to : Int) (h : ∀ p ∈ l, p.1 = to) : ∀ k, k ≤ l.length → (idx l to k).length = k
  | 0, _ => rfl
  | k + 1, hk => by
    have hk' : k < l.length := by omega
    have : (l.getD k (0, [])).1 = to := by
      have e : l.getD k (0, []) = l[k] := by simp [hk']
      rw [e]
      exact h _ (List.getElem_mem hk')
    rw [idx, if_pos this, List.length_append, idx_all l to h k (by omega)]
    rfl
set_option maxRecDepth 100000 in
set_option maxHeartbeats 16000000 in
theorem manyFrom (n to : Int) (m : Nat) (w : World) (hn : (if n < 0 then -(n + 1) else n).tmod 261 = m) (hm : m ≤ 260) (hb : -9223372036854775808 ≤ n ∧ n ≤ 9223372036854775807) :
    Calls Try.prog 4 #[.int .i64 n, .int .i64 to] w fun e w' => e = .returned (.bool true) ∧ Below w.heap.size w w' := by
  obtain ⟨hb1, hb2⟩ := hb
  have hor : n < 0 ∨ 0 ≤ n := by omega
  rcases hor with h | h
  all_goals
    first | rw [if_pos h] at hn | rw [if_neg (by omega)] at hn
    go_enter Try.func4, Try.ntmps4
    go_wp2_with fail
    refine (new_any _).mono ?_
    rintro e w1 ⟨c, rfl, hB1, hc1, hb1⟩
    have H1 := Lib.hid (show Had w w1 (fun x => x = c) c [] from ⟨hB1, fun x hx => by rw [hx]; exact hc1, hb1⟩)
    clear hB1 hb1
    go_wp2_with fail
    clear hn h
    go_loopw [6] (fun y wr => ∃ (i : Nat) (K : Nat → Prop) (l : List (Int × List Nat)), i ≤ m ∧ y = .int .i64 i ∧ Had w wr K c l ∧ l.length = got to i ∧ ∀ p ∈ l, p.1 = to) (fun y _ => m - (intOf y).toNat)
    case atStart => exact ⟨0, _, [], Nat.zero_le _, rfl, H1.out, by unfold got; split <;> rfl, fun _ h => by cases h⟩
    case round =>
      obtain ⟨i, K, l, hi, rfl, hH, hll, hall⟩ := hrel
      have hor2 : to < 0 ∨ (0 ≤ to ∧ to ≤ 8) ∨ (0 ≤ to ∧ 8 < to) := by omega
      by_cases hlt : i < m
      · have hd : decide ((i : Int) < (m : Int)) = true := by simp; omega
        have hsend := send_any (hH.alloc (.cells #[.int .u8 ((i % 256 : Nat) : Int)] 5)).bag to (byt_one wr (i % 256) _) (by simp)
        have hgs := got_succ to i
        rw [hll] at hsend
        have hw : IntKind.u8.wrap (i : Int) = ((i % 256 : Nat) : Int) := by rw [IntKind.wrap_u8']; omega
        have hok := ok_got to i
        have HH := Lib.hid (hH.alloc (.cells #[.int .u8 ((i % 256 : Nat) : Int)] 5))
        have HAL := Lib.hid hall
        have HLL := Lib.hid hll
        clear hH hall hll H1
        have hor3 : i < 200 ∨ 200 ≤ i := by omega
        rcases hor2 with k1 | ⟨k1, k2⟩ | ⟨k1, k2⟩
        all_goals
          rcases hor3 with k3 | k3
          all_goals
            first
              | (have hk : okSend to (got to i) = true := by rw [hok]; simp; omega)
              | (have hk : okSend to (got to i) = false := by rw [hok]; simp; omega)
            rw [hk] at hsend hgs
            have HS := Lib.hid hsend
            have HGS := Lib.hid hgs
            clear hsend hgs hok hk
            generalize i % 256 = x at *
            go_wp2_with (go_at_call 7; refine (HS.out).mono ?_; rintro e w2 ⟨rfl, K2, hB2, hF2, hK2⟩; have HH2 := Lib.hid (HH.out.turned hB2 hF2 hK2); clear hB2 hF2 hK2)
            refine ⟨⟨i + 1, K2, _, by omega, by go_num, HH2.out, ?_, ?_⟩, by simp [intOf]; omega⟩
            · rw [HGS.out]
              simp [HLL.out]
            · intro p hp
              simp at hp
              first | exact HAL.out p hp | (rcases hp with hp | rfl; exact HAL.out p hp; rfl)
      · obtain rfl : m = i := by omega
        have hd : decide ((m : Int) < (m : Int)) = false := by simp
        have hlen := len_any hH.bag
        have hto := to_any hH.bag to (by rw [hll]; unfold got; split <;> omega)
        rw [idx_all l to hall _ (Nat.le_refl _), hll] at hto
        rw [hll] at hlen
        have hbel := hH.bel
        have HL := Lib.hid hlen
        have HT := Lib.hid hto
        have HB := Lib.hid hbel
        have hgot : ∀ q, got to m = q → Hid (got to m = q) := fun _ h => h
        clear hH hall hll H1 hlen hto hbel
        have hor3 : m ≤ 200 ∨ 200 < m := by omega
        rcases hor2 with k1 | ⟨k1, k2⟩ | ⟨k1, k2⟩
        all_goals
          rcases hor3 with k3 | k3
          all_goals
            first
              | (have hg := hgot 0 (by unfold got; rw [if_neg (by omega)]))
              | (have hg := hgot 200 (by unfold got; rw [if_pos (by omega)]; omega))
              | (have hg := hgot m (by unfold got; rw [if_pos (by omega)]; omega))
            rw [hg.out] at HL HT
            clear hgot
            have hmm : ((m : Int) == (m : Int)) = true := by simp
            go_wp2_with (first
              | (go_at_call 9; refine (HL.out).mono ?_; rintro e w7 ⟨rfl, rfl⟩)
              | (go_at_call 11; refine (HT.out).mono ?_; rintro e w8 ⟨v8, rfl, ho8, hb8⟩; have HB8 := Lib.hid (below_then HB.out hb8); obtain ⟨A8, c8, rfl, _⟩ := own_shape ho8; clear ho8 hb8)
              | (go_at_call 10; refine (lives_any _).mono ?_; rintro e w9 ⟨rfl, hb9⟩))
            go_ret
            exact ⟨rfl, below_then HB8.out hb9⟩
theorem lawMany (n to : Int) (w : World) (hb : -9223372036854775808 ≤ n ∧ n ≤ 9223372036854775807) :
    Calls Try.prog 4 #[.int .i64 n, .int .i64 to] w fun e w' => e = .returned (.bool true) ∧ Below w.heap.size w w' := by
  have h0 : 0 ≤ (if n < 0 then -(n + 1) else n) := by split <;> omega
  have h1 := Int.tmod_nonneg 261 h0
  have h2 := Int.tmod_lt_of_pos (if n < 0 then -(n + 1) else n) (show (0 : Int) < 261 by decide)
  obtain ⟨m, hm⟩ := Int.eq_ofNat_of_zero_le h1
  exact manyFrom n to m w hm (by omega) hb
/-! ### THE ROW -/
set_option maxRecDepth 100000 in
theorem netMany_lifted (os : Os) (started : os.Started) (H : Type) (enc : TypeId × Value → H) :
    ReturnsInHanded {} Try.checked os 4 .any (Rows.netManySpec.pre6 enc Try.prog Try.f4 Rows.netManyRow.domain false) (Rows.netManySpec.post enc Try.prog Try.f4 false true false false) := by
  refine returnsInHanded_of_change (C := Try.checked) own started (by kernel_rfl) Try.func4
    (ChangeSpec.witness6 (enc := enc) (C := Try.checked) false ⟨#[], #[.int .i64 0, .int .i64 0], []⟩ 8 (by kernel_rfl) (by kernel_rfl) (by kernel_rfl) (by kernel_rfl)) ?_
  intro W base args ds gs before hval0 hW _ _
  have hval : ∀ (j : Nat) t v, Try.f4.params[j]? = some t → args[j]? = some v → Value.okWide Try.prog W .any base t v := hval0
  have hW' := hW
  obtain ⟨p, q, hA0, hV, rfl, _, _⟩ := hW
  have hA : DataW.TrodAll enc Try.prog W 0 (fun _ => true) true Try.f4.params.toList args.toList ds p := hA0
  rw [Try.params4] at hA hval
  obtain ⟨v0, vs0, d0, ds0, p0, q0, hargs, rfl, rfl, h0, r0⟩ := trodAll_cons hA
  obtain ⟨v1, vs1, d1, ds1, p1, q1, rfl, rfl, rfl, h1, r1⟩ := trodAll_cons r0
  obtain ⟨rfl, rfl, rfl⟩ := trodAll_nil r1
  obtain rfl : args = #[v0, v1] := by cases args; simp_all
  obtain ⟨rfl, rfl⟩ := trodVars_none hV
  obtain ⟨a0, rfl, rfl, rfl, w0⟩ := open_int Try.underlying3 (hval 0 3 v0 rfl rfl) h0
  obtain ⟨a1, rfl, rfl, rfl, w1⟩ := open_int Try.underlying3 (hval 1 3 v1 rfl rfl) h1
  clear hA0 hval0
  refine (lawMany a0 a1 W (bounds_i64 w0)).mono fun e W' ⟨he, bel⟩ => ?_
  subst he
  exact ⟨_, rfl, _, _, _, [], _, [], hW', trodAll_mk1 (shut_bool Try.underlying4 _), (trodAll_cons_mk (shut_int Try.underlying3 w0) (trodAll_cons_mk (shut_int Try.underlying3 w1) trodAll_mk0)), rfl, bel.frame _, fun h => by cases h⟩
theorem netMany_over : Rows.netManyRow.holds Try.pinned (OpenSpec.ofChange Rows.netManySpec) :=
  OpenClaim.holds_of_wide 4 Try.f4 rfl rfl rfl rfl rfl rfl rfl ⟨rfl, rfl, rfl, rfl, rfl⟩ rfl rfl rfl rfl rfl (by kernel_rfl) Try.func4 (by kernel_rfl)
    (of_decide_eq_true (by kernel_rfl)) (by unfold Func.isWrapper; first | (rw [if_pos (by decide +kernel)]; kernel_rfl) | (rw [if_neg (by decide +kernel)]; exact ⟨rfl, rfl⟩))
    (fun os started H enc _ => netMany_lifted os started H enc)
/-- THE STATEMENT. -/
theorem netMany_holds : Rows.NetManySaid := netMany_over
end Go.Proofs.Ytmicejjlfojncaa

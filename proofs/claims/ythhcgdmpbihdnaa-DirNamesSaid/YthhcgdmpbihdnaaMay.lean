/-
  May: of the program's names and of the reference's; what an entry may be.
-/
import Derived.Test.YthhcgdmpbihdnaaArgs
import Derived.Laws.RangeString
import Derived.Laws.RangeAny
namespace Go.Proofs.Ythhcgdmpbihdnaa
open Go.RowKit
def okB (c : Nat) : Bool := decide ((97 ≤ c ∧ c ≤ 122) ∨ (48 ≤ c ∧ c ≤ 57) ∨ c = 46 ∨ c = 95 ∨ c = 45)
theorem okB_yes {c : Nat} (h : (97 ≤ c ∧ c ≤ 122) ∨ (48 ≤ c ∧ c ≤ 57) ∨ c = 46 ∨ c = 95 ∨ c = 45) : okB c = true := decide_eq_true h
theorem okB_no {c : Nat} (h : ¬ ((97 ≤ c ∧ c ≤ 122) ∨ (48 ≤ c ∧ c ≤ 57) ∨ c = 46 ∨ c = 95 ∨ c = 45)) : okB c = false := decide_eq_false h
def okTo (s : ByteArray) : Nat → Bool
  | 0 => true
  | k + 1 => okTo s k && okB (byteAt s k)
def isDot (s : ByteArray) : Bool := s.toList == [46] || s.toList == [46, 46]
def mayN (s : ByteArray) : Bool := okTo s s.size && (decide (1 ≤ s.size) && (decide (s.size ≤ 12) && !isDot s))
theorem okTo_no (s : ByteArray) (k : Nat) (h : okB (byteAt s k) = false) : ∀ n, k < n → okTo s n = false
  | 0, h0 => absurd h0 (Nat.not_lt_zero _)
  | n + 1, hn => by
    rw [okTo]
    by_cases e : k = n
    · subst e
      rw [h, Bool.and_false]
    · rw [okTo_no s k h n (by omega), Bool.false_and]
theorem mayN_no (s : ByteArray) (k : Nat) (hk : k < s.size) (h : okB (byteAt s k) = false) : mayN s = false := by
  unfold mayN
  rw [okTo_no s k h _ hk, Bool.false_and]
theorem width_pos (s : ByteArray) (pos : Nat) (h : pos < s.size) : 1 ≤ (Utf8.decode s pos).2 := by
  by_cases ha : (s[pos]'h).toNat < 128
  · rw [decode_ascii s pos h ha]
    exact Nat.le_refl _
  · exact (decode_high s pos h (by omega)).2
set_option maxRecDepth 100000 in
set_option maxHeartbeats 4000000 in
theorem namesMay_any (s : ByteArray) (hs : s.size ≤ 9223372036854775807) (w : World) : Calls Try.prog 34 #[.string s] w fun e w' => e = .returned (.bool (mayN s)) ∧ Below w.heap.size w w' := by
  have hbi : ∀ pos, Below w.heap.size w (w.iter s pos) := fun pos => (Below.refl _ w).alloc (Nat.le_refl _) _
  have HBI := Lib.hid hbi
  clear hbi
  go_enter Try.func34, Try.ntmps34
  go_wp2
  go_loopw [4, 5] (fun _ _ wr => ∃ (pos : Nat), pos ≤ s.size ∧ wr = w.iter s pos ∧ okTo s pos = true) (fun _ _ wr => s.size - wr.iterPos w.heap.size)
  case atStart => exact ⟨0, Nat.zero_le _, rfl, rfl⟩
  case round =>
    obtain ⟨pos, hpos, rfl, hok⟩ := hrel
    have HOK := Lib.hid hok
    clear hok
    by_cases hp : pos < s.size
    · have hnx : ∀ ty, (Instr.next (.pointer (some ⟨w.heap.size, 0, none⟩)) true ty).run Try.prog (w.iter s pos) = _ := fun ty => run_next_any w s pos ty hp
      have hb := byteAt_is s pos hp
      have hno := mayN_no s pos hp
      have hyes : okB (byteAt s pos) = true → okTo s (pos + 1) = true := fun h => by rw [okTo, HOK.out, h]; rfl
      have hdec : (byteAt s pos < 128 ∧ Utf8.decode s pos = (byteAt s pos, 1)) ∨ (128 ≤ byteAt s pos ∧ 128 ≤ (Utf8.decode s pos).1) := by
        by_cases ha : (s[pos]'hp).toNat < 128
        · left
          rw [← hb]
          exact ⟨ha, decode_ascii s pos hp ha⟩
        · right
          rw [← hb]
          exact ⟨by omega, (decode_high s pos hp (by omega)).1⟩
      clear hb
      generalize byteAt s pos = c at *
      have HNO := Lib.hid hno
      have HYES := Lib.hid hyes
      clear hno hyes
      rcases hdec with ⟨h1, h2⟩ | ⟨h1, h2⟩
      · rw [h2] at hnx
        clear h2
        have hcat : (c = 45 ∨ c = 46 ∨ c = 95) ∨ (c = 47 ∨ c = 96) ∨ (48 ≤ c ∧ c ≤ 57) ∨ (97 ≤ c ∧ c ≤ 122) ∨ c < 45 ∨ (58 ≤ c ∧ c ≤ 94) ∨ 123 ≤ c := by omega
        rcases hcat with (rfl | rfl | rfl) | (rfl | rfl) | ⟨q1, q2⟩ | ⟨q1, q2⟩ | q1 | ⟨q1, q2⟩ | q1
        · go_wp2
          exact ⟨⟨pos + 1, by omega, rfl, HYES.out (by decide)⟩, by simp; omega⟩
        · go_wp2
          exact ⟨⟨pos + 1, by omega, rfl, HYES.out (by decide)⟩, by simp; omega⟩
        · go_wp2
          exact ⟨⟨pos + 1, by omega, rfl, HYES.out (by decide)⟩, by simp; omega⟩
        · go_wp2
          go_ret
          exact ⟨by rw [HNO.out (by decide)]; rfl, HBI.out _⟩
        · go_wp2
          go_ret
          exact ⟨by rw [HNO.out (by decide)]; rfl, HBI.out _⟩
        · have e1 : ((c : Int) != 46) = true := by simp; omega
          have e2 : ((c : Int) != 95) = true := by simp; omega
          have e3 : ((c : Int) != 45) = true := by simp; omega
          have e4 : ((c : Int) == 46) = false := by simp; omega
          have e5 : ((c : Int) == 95) = false := by simp; omega
          have e6 : ((c : Int) == 45) = false := by simp; omega
          have d1 : decide ((c : Int) ≤ 57) = true := decide_eq_true (by omega)
          have d2 : decide ((c : Int) ≤ 122) = true := decide_eq_true (by omega)
          have HY := HYES.out (okB_yes (by omega))
          have HYY := Lib.hid HY
          clear HY
          go_wp2
          exact ⟨⟨pos + 1, by omega, rfl, HYY.out⟩, by simp; omega⟩
        · have e1 : ((c : Int) != 46) = true := by simp; omega
          have e2 : ((c : Int) != 95) = true := by simp; omega
          have e3 : ((c : Int) != 45) = true := by simp; omega
          have e4 : ((c : Int) == 46) = false := by simp; omega
          have e5 : ((c : Int) == 95) = false := by simp; omega
          have e6 : ((c : Int) == 45) = false := by simp; omega
          have d1 : decide ((c : Int) ≤ 57) = false := decide_eq_false (by omega)
          have d2 : decide ((c : Int) ≤ 122) = true := decide_eq_true (by omega)
          have HY := HYES.out (okB_yes (by omega))
          have HYY := Lib.hid HY
          clear HY
          go_wp2
          exact ⟨⟨pos + 1, by omega, rfl, HYY.out⟩, by simp; omega⟩
        · have e1 : ((c : Int) != 46) = true := by simp; omega
          have e2 : ((c : Int) != 95) = true := by simp; omega
          have e3 : ((c : Int) != 45) = true := by simp; omega
          have e4 : ((c : Int) == 46) = false := by simp; omega
          have e5 : ((c : Int) == 95) = false := by simp; omega
          have e6 : ((c : Int) == 45) = false := by simp; omega
          have d1 : decide ((c : Int) ≤ 57) = true := decide_eq_true (by omega)
          have d2 : decide ((c : Int) ≤ 122) = true := decide_eq_true (by omega)
          have HY := HNO.out (okB_no (by omega))
          have HYY := Lib.hid HY
          clear HY
          go_wp2
          go_ret
          exact ⟨by rw [HYY.out]; rfl, HBI.out _⟩
        · have e1 : ((c : Int) != 46) = true := by simp; omega
          have e2 : ((c : Int) != 95) = true := by simp; omega
          have e3 : ((c : Int) != 45) = true := by simp; omega
          have e4 : ((c : Int) == 46) = false := by simp; omega
          have e5 : ((c : Int) == 95) = false := by simp; omega
          have e6 : ((c : Int) == 45) = false := by simp; omega
          have d1 : decide ((c : Int) ≤ 57) = false := decide_eq_false (by omega)
          have d2 : decide ((c : Int) ≤ 122) = true := decide_eq_true (by omega)
          have HY := HNO.out (okB_no (by omega))
          have HYY := Lib.hid HY
          clear HY
          go_wp2
          go_ret
          exact ⟨by rw [HYY.out]; rfl, HBI.out _⟩
        · have e1 : ((c : Int) != 46) = true := by simp; omega
          have e2 : ((c : Int) != 95) = true := by simp; omega
          have e3 : ((c : Int) != 45) = true := by simp; omega
          have e4 : ((c : Int) == 46) = false := by simp; omega
          have e5 : ((c : Int) == 95) = false := by simp; omega
          have e6 : ((c : Int) == 45) = false := by simp; omega
          have d1 : decide ((c : Int) ≤ 57) = false := decide_eq_false (by omega)
          have d2 : decide ((c : Int) ≤ 122) = false := decide_eq_false (by omega)
          have HY := HNO.out (okB_no (by omega))
          have HYY := Lib.hid HY
          clear HY
          go_wp2
          go_ret
          exact ⟨by rw [HYY.out]; rfl, HBI.out _⟩
      · generalize (Utf8.decode s pos).1 = r at *
        generalize (Utf8.decode s pos).2 = d at *
        have hF := HNO.out (okB_no (by omega))
        have HF := Lib.hid hF
        have e1 : ((r : Int) != 46) = true := by simp; omega
        have e2 : ((r : Int) != 95) = true := by simp; omega
        have e3 : ((r : Int) != 45) = true := by simp; omega
        have d1 : decide ((r : Int) ≤ 57) = false := decide_eq_false (by omega)
        have d2 : decide ((r : Int) ≤ 122) = false := decide_eq_false (by omega)
        clear hF
        go_wp2
        go_ret
        exact ⟨by rw [HF.out]; rfl, HBI.out _⟩
    · have hnx : ∀ ty, (Instr.next (.pointer (some ⟨w.heap.size, 0, none⟩)) true ty).run Try.prog (w.iter s pos) = _ := fun ty => run_next_end w s pos ty hp
      obtain rfl : s.size = pos := by omega
      have HM : Hid (mayN s = (decide (1 ≤ s.size) && (decide (s.size ≤ 12) && !isDot s))) := Lib.hid (by unfold mayN; rw [HOK.out, Bool.true_and])
      have hlen : s.toList.length = s.size := by rw [ByteArray.toList_eq]; simp
      have hem : s.toList.isEmpty = decide (s.size = 0) := by rw [← hlen]; cases s.toList <;> simp
      have HEM := Lib.hid hem
      clear hlen hem
      by_cases h0 : s.size = 0
      · have e1 : s.toList.isEmpty = true := by rw [HEM.out]; simpa using h0
        have e2 : (!s.toList.isEmpty) = false := by rw [e1]; rfl
        have HR : Hid (mayN s = false) := Lib.hid (by rw [HM.out, h0]; rfl)
        clear h0
        go_wp2
        go_ret
        exact ⟨by rw [HR.out]; rfl, HBI.out _⟩
      · have e1 : s.toList.isEmpty = false := by rw [HEM.out]; simpa using h0
        have e2 : (!s.toList.isEmpty) = true := by rw [e1]; rfl
        by_cases h12 : s.size ≤ 12
        · by_cases hd1 : (s.toList == [46]) = true
          · have e3 : (!(s.toList == [46])) = false := by rw [hd1]; rfl
            have HR : Hid (mayN s = false) := Lib.hid (by rw [HM.out]; unfold isDot; rw [hd1]; simp)
            clear hd1 h0
            go_wp2
            go_ret
            exact ⟨by rw [HR.out]; rfl, HBI.out _⟩
          · have hd1' : (s.toList == [46]) = false := by simpa using hd1
            have e3 : (!(s.toList == [46])) = true := by rw [hd1']; rfl
            by_cases hd2 : (s.toList == [46, 46]) = true
            · have e4 : (!(s.toList == [46, 46])) = false := by rw [hd2]; rfl
              have HR : Hid (mayN s = false) := Lib.hid (by rw [HM.out]; unfold isDot; rw [hd2]; simp)
              clear hd1 hd2 h0
              go_wp2
              go_ret
              exact ⟨by rw [HR.out]; rfl, HBI.out _⟩
            · have hd2' : (s.toList == [46, 46]) = false := by simpa using hd2
              have e4 : (!(s.toList == [46, 46])) = true := by rw [hd2']; rfl
              have HR : Hid (mayN s = true) := Lib.hid (by rw [HM.out]; unfold isDot; rw [hd2', hd1']; simp; omega)
              clear hd1 hd2 h0
              go_wp2
              go_ret
              exact ⟨by rw [HR.out]; rfl, HBI.out _⟩
        · have HR : Hid (mayN s = false) := Lib.hid (by rw [HM.out]; simp; omega)
          clear h0
          go_wp2
          go_ret
          exact ⟨by rw [HR.out]; rfl, HBI.out _⟩
set_option maxRecDepth 100000 in
set_option maxHeartbeats 4000000 in
theorem rNamesMay_any (s : ByteArray) (hs : s.size ≤ 9223372036854775807) (w : World) : Calls Try.prog 27 #[.string s] w fun e w' => e = .returned (.bool (mayN s)) ∧ w = w' := by
  by_cases h0 : s.size < 1
  · have HR : Hid (mayN s = false) := Lib.hid (by unfold mayN; rw [show s.size = 0 by omega]; simp)
    go_enter Try.func27, Try.ntmps27
    go_wp2
    go_ret
    exact ⟨by rw [HR.out]; rfl, rfl⟩
  · by_cases h12 : 12 < s.size
    · have HR : Hid (mayN s = false) := Lib.hid (by unfold mayN; simp; omega)
      go_enter Try.func27, Try.ntmps27
      go_wp2
      go_ret
      exact ⟨by rw [HR.out]; rfl, rfl⟩
    · by_cases hd1 : (s.toList == [46]) = true
      · have HR : Hid (mayN s = false) := Lib.hid (by unfold mayN isDot; rw [hd1]; simp)
        go_enter Try.func27, Try.ntmps27
        go_wp2
        go_ret
        exact ⟨by rw [HR.out]; rfl, rfl⟩
      · have hd1' : (s.toList == [46]) = false := by simpa using hd1
        by_cases hd2 : (s.toList == [46, 46]) = true
        · have HR : Hid (mayN s = false) := Lib.hid (by unfold mayN isDot; rw [hd2]; simp)
          clear hd1
          go_enter Try.func27, Try.ntmps27
          go_wp2
          go_ret
          exact ⟨by rw [HR.out]; rfl, rfl⟩
        · have hd2' : (s.toList == [46, 46]) = false := by simpa using hd2
          have HR : Hid (okTo s s.size = true → mayN s = true) := Lib.hid fun h => by unfold mayN isDot; rw [h, hd1', hd2']; simp; omega
          clear hd1 hd2
          go_enter Try.func27, Try.ntmps27
          go_wp2
          go_loop [3, 4, 5] (fun i _ _ => ∃ k : Nat, k ≤ s.size ∧ i = .int .i64 k ∧ okTo s k = true) (fun i _ _ => s.size - (intOf i).toNat)
          case atStart => exact ⟨0, Nat.zero_le _, rfl, rfl⟩
          case round =>
            obtain ⟨k, hk, rfl, hok⟩ := hrel
            have HOK := Lib.hid hok
            clear hok
            by_cases hp : k < s.size
            · have hb := byteAt_is s k hp
              have hno := mayN_no s k hp
              have hyes : okB (byteAt s k) = true → okTo s (k + 1) = true := fun h => by rw [okTo, HOK.out, h]; rfl
              have hlt := byteAt_lt s k
              rw [← hb] at hno hyes hlt
              have HNO := Lib.hid hno
              have HYES := Lib.hid hyes
              clear hno hyes hb
              generalize hc : (s[k]'hp).toNat = c at *
              have HC := Lib.hid hc
              have HC2 := Lib.hid HC.out
              clear HC
              have hcat : (c = 45 ∨ c = 46 ∨ c = 95) ∨ (c = 47 ∨ c = 96) ∨ (48 ≤ c ∧ c ≤ 57) ∨ (97 ≤ c ∧ c ≤ 122) ∨ c < 45 ∨ (58 ≤ c ∧ c ≤ 94) ∨ 123 ≤ c := by omega
              rcases hcat with (rfl | rfl | rfl) | (rfl | rfl) | ⟨q1, q2⟩ | ⟨q1, q2⟩ | q1 | ⟨q1, q2⟩ | q1
              · go_wp2
                exact ⟨⟨k + 1, by omega, by go_num, HYES.out (by decide)⟩, by simp [intOf]; omega⟩
              · go_wp2
                exact ⟨⟨k + 1, by omega, by go_num, HYES.out (by decide)⟩, by simp [intOf]; omega⟩
              · go_wp2
                exact ⟨⟨k + 1, by omega, by go_num, HYES.out (by decide)⟩, by simp [intOf]; omega⟩
              · go_wp2
                go_ret
                exact ⟨by rw [HNO.out (by decide)]; rfl, rfl⟩
              · go_wp2
                go_ret
                exact ⟨by rw [HNO.out (by decide)]; rfl, rfl⟩
              · have e1 : ((c : Int) != 46) = true := by simp; omega
                have e2 : ((c : Int) != 95) = true := by simp; omega
                have e3 : ((c : Int) != 45) = true := by simp; omega
                have e4 : ((c : Int) == 46) = false := by simp; omega
                have e5 : ((c : Int) == 95) = false := by simp; omega
                have e6 : ((c : Int) == 45) = false := by simp; omega
                have d1 : decide ((c : Int) ≤ 57) = true := decide_eq_true (by omega)
                have d2 : decide ((c : Int) ≤ 122) = true := decide_eq_true (by omega)
                have HY := HYES.out (okB_yes (by omega))
                have HYY := Lib.hid HY
                clear HY
                go_wp2
                exact ⟨⟨k + 1, by omega, by go_num, HYY.out⟩, by simp [intOf]; omega⟩
              · have e1 : ((c : Int) != 46) = true := by simp; omega
                have e2 : ((c : Int) != 95) = true := by simp; omega
                have e3 : ((c : Int) != 45) = true := by simp; omega
                have e4 : ((c : Int) == 46) = false := by simp; omega
                have e5 : ((c : Int) == 95) = false := by simp; omega
                have e6 : ((c : Int) == 45) = false := by simp; omega
                have d1 : decide ((c : Int) ≤ 57) = false := decide_eq_false (by omega)
                have d2 : decide ((c : Int) ≤ 122) = true := decide_eq_true (by omega)
                have HY := HYES.out (okB_yes (by omega))
                have HYY := Lib.hid HY
                clear HY
                go_wp2
                exact ⟨⟨k + 1, by omega, by go_num, HYY.out⟩, by simp [intOf]; omega⟩
              · have e1 : ((c : Int) != 46) = true := by simp; omega
                have e2 : ((c : Int) != 95) = true := by simp; omega
                have e3 : ((c : Int) != 45) = true := by simp; omega
                have e4 : ((c : Int) == 46) = false := by simp; omega
                have e5 : ((c : Int) == 95) = false := by simp; omega
                have e6 : ((c : Int) == 45) = false := by simp; omega
                have d1 : decide ((c : Int) ≤ 57) = true := decide_eq_true (by omega)
                have d2 : decide ((c : Int) ≤ 122) = true := decide_eq_true (by omega)
                have HY := HNO.out (okB_no (by omega))
                have HYY := Lib.hid HY
                clear HY
                go_wp2
                go_ret
                exact ⟨by rw [HYY.out]; rfl, rfl⟩
              · have e1 : ((c : Int) != 46) = true := by simp; omega
                have e2 : ((c : Int) != 95) = true := by simp; omega
                have e3 : ((c : Int) != 45) = true := by simp; omega
                have e4 : ((c : Int) == 46) = false := by simp; omega
                have e5 : ((c : Int) == 95) = false := by simp; omega
                have e6 : ((c : Int) == 45) = false := by simp; omega
                have d1 : decide ((c : Int) ≤ 57) = false := decide_eq_false (by omega)
                have d2 : decide ((c : Int) ≤ 122) = true := decide_eq_true (by omega)
                have HY := HNO.out (okB_no (by omega))
                have HYY := Lib.hid HY
                clear HY
                go_wp2
                go_ret
                exact ⟨by rw [HYY.out]; rfl, rfl⟩
              · have e1 : ((c : Int) != 46) = true := by simp; omega
                have e2 : ((c : Int) != 95) = true := by simp; omega
                have e3 : ((c : Int) != 45) = true := by simp; omega
                have e4 : ((c : Int) == 46) = false := by simp; omega
                have e5 : ((c : Int) == 95) = false := by simp; omega
                have e6 : ((c : Int) == 45) = false := by simp; omega
                have d1 : decide ((c : Int) ≤ 57) = false := decide_eq_false (by omega)
                have d2 : decide ((c : Int) ≤ 122) = false := decide_eq_false (by omega)
                have HY := HNO.out (okB_no (by omega))
                have HYY := Lib.hid HY
                clear HY
                go_wp2
                go_ret
                exact ⟨by rw [HYY.out]; rfl, rfl⟩
            · obtain rfl : s.size = k := by omega
              go_wp2
              go_ret
              exact ⟨by rw [HR.out HOK.out]; rfl, rfl⟩
/-! ### Entries -/
def mayE (e : Ent) : Bool := (e.nm.toList.isEmpty && e.ino == 0) || (mayN e.nm && (decide (1 ≤ e.ino) && decide (e.ino ≤ 32)))
set_option maxHeartbeats 2000000 in
theorem may_any (e : Ent) (hs : e.nm.size ≤ 9223372036854775807) (w : World) : Calls Try.prog 20 #[.agg #[.string e.nm, .int .i64 e.ino]] w fun r w' => r = .returned (.bool (mayE e)) ∧ Below w.heap.size w w' := by
  obtain ⟨s, n⟩ := e
  have HN := Lib.hid fun W => namesMay_any s hs W
  have HM : Hid (mayE ⟨s, n⟩ = ((s.toList.isEmpty && n == 0) || (mayN s && (decide (1 ≤ n) && decide (n ≤ 32))))) := Lib.hid rfl
  simp only
  cases h0 : s.toList.isEmpty
  · rw [h0, Bool.false_and, Bool.false_or] at HM
    by_cases hn : mayN s = true
    · rw [hn] at HN
      have hor : (1 ≤ n ∧ n ≤ 32) ∨ n < 1 ∨ (1 ≤ n ∧ 32 < n) := by omega
      rcases hor with ⟨k1, k2⟩ | k1 | ⟨k1, k2⟩
      · have HR : Hid (mayE ⟨s, n⟩ = true) := Lib.hid (by rw [HM.out, hn]; simp; omega)
        clear hn
        go_enter Try.func20, Try.ntmps20
        go_wp2_with (go_at_call 34; refine (HN.out _).mono ?_; rintro r w1 ⟨rfl, hb⟩; have HB := Lib.hid (below_new hb); have c1 := blk_cell (j := 1) (blk_new hb) rfl; clear hb)
        go_ret
        exact ⟨by rw [HR.out]; rfl, HB.out⟩
      · have HR : Hid (mayE ⟨s, n⟩ = false) := Lib.hid (by rw [HM.out, hn]; simp; omega)
        clear hn
        go_enter Try.func20, Try.ntmps20
        go_wp2_with (go_at_call 34; refine (HN.out _).mono ?_; rintro r w1 ⟨rfl, hb⟩; have HB := Lib.hid (below_new hb); have c1 := blk_cell (j := 1) (blk_new hb) rfl; clear hb)
        go_ret
        exact ⟨by rw [HR.out]; rfl, HB.out⟩
      · have HR : Hid (mayE ⟨s, n⟩ = false) := Lib.hid (by rw [HM.out, hn]; simp; omega)
        have kd : decide (n ≤ 32) = false := decide_eq_false (by omega)
        clear hn
        go_enter Try.func20, Try.ntmps20
        go_wp2_with (go_at_call 34; refine (HN.out _).mono ?_; rintro r w1 ⟨rfl, hb⟩; have HB := Lib.hid (below_new hb); have c1 := blk_cell (j := 1) (blk_new hb) rfl; clear hb)
        go_ret
        exact ⟨by rw [HR.out]; rfl, HB.out⟩
    · have hn' : mayN s = false := by simpa using hn
      rw [hn'] at HN
      have HR : Hid (mayE ⟨s, n⟩ = false) := Lib.hid (by rw [HM.out, hn', Bool.false_and])
      clear hn hn'
      go_enter Try.func20, Try.ntmps20
      go_wp2_with (go_at_call 34; refine (HN.out _).mono ?_; rintro r w1 ⟨rfl, hb⟩; have HB := Lib.hid (below_new hb); have c1 := blk_cell (j := 1) (blk_new hb) rfl; clear hb)
      go_ret
      exact ⟨by rw [HR.out]; rfl, HB.out⟩
  · by_cases h1 : n = 0
    · have HR : Hid (mayE ⟨s, n⟩ = true) := Lib.hid (by rw [HM.out, h0, h1]; rfl)
      subst h1
      go_enter Try.func20, Try.ntmps20
      go_wp2
      go_ret
      exact ⟨by rw [HR.out]; rfl, (Below.refl _ _).alloc (Nat.le_refl _) _⟩
    · have h2 : (n == 0) = false := by simpa using h1
      rw [h2, Bool.and_false, Bool.false_or] at HM
      clear h1
      by_cases hn : mayN s = true
      · rw [hn] at HN
        have hor : (1 ≤ n ∧ n ≤ 32) ∨ n < 1 ∨ (1 ≤ n ∧ 32 < n) := by omega
        rcases hor with ⟨k1, k2⟩ | k1 | ⟨k1, k2⟩
        · have HR : Hid (mayE ⟨s, n⟩ = true) := Lib.hid (by rw [HM.out, hn]; simp; omega)
          clear hn
          go_enter Try.func20, Try.ntmps20
          go_wp2_with (go_at_call 34; refine (HN.out _).mono ?_; rintro r w1 ⟨rfl, hb⟩; have HB := Lib.hid (below_new hb); have c1 := blk_cell (j := 1) (blk_new hb) rfl; clear hb)
          go_ret
          exact ⟨by rw [HR.out]; rfl, HB.out⟩
        · have HR : Hid (mayE ⟨s, n⟩ = false) := Lib.hid (by rw [HM.out, hn]; simp; omega)
          clear hn
          go_enter Try.func20, Try.ntmps20
          go_wp2_with (go_at_call 34; refine (HN.out _).mono ?_; rintro r w1 ⟨rfl, hb⟩; have HB := Lib.hid (below_new hb); have c1 := blk_cell (j := 1) (blk_new hb) rfl; clear hb)
          go_ret
          exact ⟨by rw [HR.out]; rfl, HB.out⟩
        · have HR : Hid (mayE ⟨s, n⟩ = false) := Lib.hid (by rw [HM.out, hn]; simp; omega)
          have kd : decide (n ≤ 32) = false := decide_eq_false (by omega)
          clear hn
          go_enter Try.func20, Try.ntmps20
          go_wp2_with (go_at_call 34; refine (HN.out _).mono ?_; rintro r w1 ⟨rfl, hb⟩; have HB := Lib.hid (below_new hb); have c1 := blk_cell (j := 1) (blk_new hb) rfl; clear hb)
          go_ret
          exact ⟨by rw [HR.out]; rfl, HB.out⟩
      · have hn' : mayN s = false := by simpa using hn
        rw [hn'] at HN
        have HR : Hid (mayE ⟨s, n⟩ = false) := Lib.hid (by rw [HM.out, hn', Bool.false_and])
        clear hn hn'
        go_enter Try.func20, Try.ntmps20
        go_wp2_with (go_at_call 34; refine (HN.out _).mono ?_; rintro r w1 ⟨rfl, hb⟩; have HB := Lib.hid (below_new hb); have c1 := blk_cell (j := 1) (blk_new hb) rfl; clear hb)
        go_ret
        exact ⟨by rw [HR.out]; rfl, HB.out⟩
set_option maxHeartbeats 2000000 in
theorem rmay_any (e : Ent) (hs : e.nm.size ≤ 9223372036854775807) (w : World) : Calls Try.prog 21 #[.agg #[.string e.nm, .int .i64 e.ino]] w fun r w' => r = .returned (.bool (mayE e)) ∧ Below w.heap.size w w' := by
  obtain ⟨s, n⟩ := e
  have HN := Lib.hid fun W => rNamesMay_any s hs W
  have HM : Hid (mayE ⟨s, n⟩ = ((s.toList.isEmpty && n == 0) || (mayN s && (decide (1 ≤ n) && decide (n ≤ 32))))) := Lib.hid rfl
  simp only
  cases h0 : s.toList.isEmpty
  · rw [h0, Bool.false_and, Bool.false_or] at HM
    by_cases hn : mayN s = true
    · rw [hn] at HN
      have hor : (1 ≤ n ∧ n ≤ 32) ∨ n < 1 ∨ (1 ≤ n ∧ 32 < n) := by omega
      rcases hor with ⟨k1, k2⟩ | k1 | ⟨k1, k2⟩
      · have HR : Hid (mayE ⟨s, n⟩ = true) := Lib.hid (by rw [HM.out, hn]; simp; omega)
        clear hn
        go_enter Try.func21, Try.ntmps21
        go_wp2_with (go_at_call 27; refine (HN.out _).mono ?_; rintro r w1 ⟨rfl, rfl⟩)
        go_ret
        exact ⟨by rw [HR.out]; rfl, (Below.refl _ _).alloc (Nat.le_refl _) _⟩
      · have HR : Hid (mayE ⟨s, n⟩ = false) := Lib.hid (by rw [HM.out, hn]; simp; omega)
        clear hn
        go_enter Try.func21, Try.ntmps21
        go_wp2_with (go_at_call 27; refine (HN.out _).mono ?_; rintro r w1 ⟨rfl, rfl⟩)
        go_ret
        exact ⟨by rw [HR.out]; rfl, (Below.refl _ _).alloc (Nat.le_refl _) _⟩
      · have HR : Hid (mayE ⟨s, n⟩ = false) := Lib.hid (by rw [HM.out, hn]; simp; omega)
        have kd : decide (n ≤ 32) = false := decide_eq_false (by omega)
        clear hn
        go_enter Try.func21, Try.ntmps21
        go_wp2_with (go_at_call 27; refine (HN.out _).mono ?_; rintro r w1 ⟨rfl, rfl⟩)
        go_ret
        exact ⟨by rw [HR.out]; rfl, (Below.refl _ _).alloc (Nat.le_refl _) _⟩
    · have hn' : mayN s = false := by simpa using hn
      rw [hn'] at HN
      have HR : Hid (mayE ⟨s, n⟩ = false) := Lib.hid (by rw [HM.out, hn', Bool.false_and])
      clear hn hn'
      go_enter Try.func21, Try.ntmps21
      go_wp2_with (go_at_call 27; refine (HN.out _).mono ?_; rintro r w1 ⟨rfl, rfl⟩)
      go_ret
      exact ⟨by rw [HR.out]; rfl, (Below.refl _ _).alloc (Nat.le_refl _) _⟩
  · by_cases h1 : n = 0
    · have HR : Hid (mayE ⟨s, n⟩ = true) := Lib.hid (by rw [HM.out, h0, h1]; rfl)
      subst h1
      go_enter Try.func21, Try.ntmps21
      go_wp2
      go_ret
      exact ⟨by rw [HR.out]; rfl, (Below.refl _ _).alloc (Nat.le_refl _) _⟩
    · have h2 : (n == 0) = false := by simpa using h1
      rw [h2, Bool.and_false, Bool.false_or] at HM
      clear h1
      by_cases hn : mayN s = true
      · rw [hn] at HN
        have hor : (1 ≤ n ∧ n ≤ 32) ∨ n < 1 ∨ (1 ≤ n ∧ 32 < n) := by omega
        rcases hor with ⟨k1, k2⟩ | k1 | ⟨k1, k2⟩
        · have HR : Hid (mayE ⟨s, n⟩ = true) := Lib.hid (by rw [HM.out, hn]; simp; omega)
          clear hn
          go_enter Try.func21, Try.ntmps21
          go_wp2_with (go_at_call 27; refine (HN.out _).mono ?_; rintro r w1 ⟨rfl, rfl⟩)
          go_ret
          exact ⟨by rw [HR.out]; rfl, (Below.refl _ _).alloc (Nat.le_refl _) _⟩
        · have HR : Hid (mayE ⟨s, n⟩ = false) := Lib.hid (by rw [HM.out, hn]; simp; omega)
          clear hn
          go_enter Try.func21, Try.ntmps21
          go_wp2_with (go_at_call 27; refine (HN.out _).mono ?_; rintro r w1 ⟨rfl, rfl⟩)
          go_ret
          exact ⟨by rw [HR.out]; rfl, (Below.refl _ _).alloc (Nat.le_refl _) _⟩
        · have HR : Hid (mayE ⟨s, n⟩ = false) := Lib.hid (by rw [HM.out, hn]; simp; omega)
          have kd : decide (n ≤ 32) = false := decide_eq_false (by omega)
          clear hn
          go_enter Try.func21, Try.ntmps21
          go_wp2_with (go_at_call 27; refine (HN.out _).mono ?_; rintro r w1 ⟨rfl, rfl⟩)
          go_ret
          exact ⟨by rw [HR.out]; rfl, (Below.refl _ _).alloc (Nat.le_refl _) _⟩
      · have hn' : mayN s = false := by simpa using hn
        rw [hn'] at HN
        have HR : Hid (mayE ⟨s, n⟩ = false) := Lib.hid (by rw [HM.out, hn', Bool.false_and])
        clear hn hn'
        go_enter Try.func21, Try.ntmps21
        go_wp2_with (go_at_call 27; refine (HN.out _).mono ?_; rintro r w1 ⟨rfl, rfl⟩)
        go_ret
        exact ⟨by rw [HR.out]; rfl, (Below.refl _ _).alloc (Nat.le_refl _) _⟩
end Go.Proofs.Ythhcgdmpbihdnaa
